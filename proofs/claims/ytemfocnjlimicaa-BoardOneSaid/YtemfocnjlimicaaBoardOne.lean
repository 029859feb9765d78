/- BoardOne: a board of one bank is that bank: what it tells, and how many are written, is the same. -/
import Derived.Test.YtemfocnjlimicaaRows
import Derived.Test.YtemfocnjlimicaaAwake17
import Derived.Test.YtemfocnjlimicaaBoard10
import Derived.Test.YtemfocnjlimicaaOpenMoves
namespace Go.Proofs.Ytemfocnjlimicaa
open Go.RowKit Pg Go.ChangeShapes Go.WideShapes Go.ChangeAt

theorem one17_new (m : Nat) (h1 : 1 ≤ m) (h2 : m ≤ 256) (w : World) : Calls Try.prog 15 #[.int .i64 0, .int .i64 (m : Int)] w (fun e w2 => ∃ gb gp cap g gr, e = .returned (.tuple #[.pointer (some ⟨gb, 0, none⟩), .int .i64 0]) ∧ Kept w w2 ∧ BoardAt w w2 gb gp (0 : Nat) m cap [⟨g, gr, List.replicate m z0, 0⟩]) :=
  (bonew_yes 0 (by omega) m h1 h2 w).mono fun e w2 ⟨gb, gp, cap, bs, he, hk, hb, hl, hn⟩ => by
    match bs, hl with
    | [⟨g0, r0, l0, c0⟩], _ =>
      obtain ⟨h1, h2⟩ := hn ⟨g0, r0, l0, c0⟩ (by simp)
      dsimp only at h1 h2
      subst h1 h2
      exact ⟨gb, gp, cap, g0, r0, he, hk, hb⟩
theorem one17_do {W0 w : World} {gb gp cap g gr m : Nat} {L : List Slot} {cn : Int} (h : BoardAt W0 w gb gp (0 : Nat) m cap [⟨g, gr, L, cn⟩]) (h0 : 0 ≤ cn) (h1 : cn ≤ 1000) (x : Wr) (E : Int) (hE : doE x m = E) :
    Calls Try.prog 17 #[.pointer (some ⟨gb, 0, none⟩), mvv ⟨0, x⟩] w (fun e w2 => e = .returned (.int .i64 E) ∧ Chg w w2 g gr ∧ BoardAt W0 w2 gb gp (0 : Nat) m cap [⟨g, gr, putW L x, if mayW x m then cn + 1 else cn⟩]) :=
  (bodo_yes h (by simp) 0 (by simp) h0 h1 x).mono fun e w2 ⟨he, hc, hb⟩ => by
    rw [hE] at he
    exact ⟨he, hc, hb⟩
theorem one17_x {W0 w : World} {g gr m : Nat} {L : List Slot} {cn : Int} (h : BankAt W0 w g gr L cn) (hl : L.length = m) (h0 : 0 ≤ cn) (h1 : cn ≤ 1000) (x : Wr) (E : Int) (hE : doE x m = E) :
    Calls Try.prog 18 #[.pointer (some ⟨g, 0, none⟩), wrv x] w (fun e w2 => e = .returned (.int .i64 E) ∧ Chg w w2 g gr ∧ BankAt W0 w2 g gr (putW L x) (if mayW x m then cn + 1 else cn)) :=
  (bdo_any h h0 h1 x).mono fun e w2 ⟨he, hc, hb⟩ => by
    rw [hl] at he hb
    rw [hE] at he
    exact ⟨he, hc, hb⟩
set_option maxHeartbeats 2000000 in
set_option maxRecDepth 100000 in
theorem boardOne_go {l : List Mv} {v : Value} (m : Nat) (h1 : 1 ≤ m) (h2 : m ≤ 20) (a : B) (w : World) (hl : Els w v 9 Mv.cells l) (hn : l.length ≤ 30) : Calls Try.prog 4 #[.int .i64 (m : Int), v, av a] w (Ret (.bool true) w) := by
  have HE := Lib.hid hl
  obtain ⟨ad, c, rfl, hc, he⟩ := hl.form
  have g1 : ¬ (30 : Int) < (l.length : Int) := by omega
  have hmay := Lib.hid (fun W => law17may_any 0 m true (by simp; omega) W)
  obtain ⟨wa, hwa⟩ : ∃ wa, wa = w.alloc (.cells #[.int .u64 (hi a), .int .u64 (lo a)] 25) := ⟨_, rfl⟩
  obtain ⟨ga, hga⟩ : ∃ ga, ga = w.heap.size := ⟨_, rfl⟩
  have HKa := Lib.hid (show Kept w wa by rw [hwa]; exact Kept.alloc (Kept.refl w) _)
  have HBa := Lib.hid (show Blk wa ga 25 #[.int .u64 (hi a), .int .u64 (lo a)] by rw [hwa]; exact Blk.new' w _ _ hga)
  clear hl he hn
  go_enter Try.func4, Try.ntmps4
  go_wp2_with fail
  rw [← hwa, ← hga]
  clear hwa hga
  refine (one17_new m h1 (by omega) _).mono ?_
  rintro e w1 ⟨gb, gp, cap, g, gr, rfl, hk1, hb1⟩
  have HB1 := Lib.hid hb1
  have HU := Lib.hid hb1.under
  clear hk1 hb1
  go_wp2_with fail
  refine (bnew_yes m _ h1 (by omega)).mono ?_
  rintro e w2 ⟨gx, gxr, rfl, hk2, hx2⟩
  have HX2 := Lib.hid (hx2.base HB1.out.banks.kept)
  have HB2 := Lib.hid (HB1.out.kept hk2)
  have HL := Lib.hid (show w1.heap.size ≤ gx ∧ w1.heap.size ≤ gxr from ⟨hx2.low, hx2.lowr⟩)
  clear hk2 hx2 HB1
  go_wp2_with (first | (go_at_call 7; first | ((refine (calls_in (hmay.out _)).mono ?_); rintro e w1 ⟨rfl, q1, rfl⟩) | ((refine (hmay.out _).mono ?_); rintro e w1 ⟨rfl, q1, rfl⟩)))
  obtain ⟨wz, hwz⟩ : ∃ wz, wz = ext w2 q1 := ⟨_, rfl⟩
  have HBz := Lib.hid (show BoardAt wa wz gb gp (0 : Nat) m cap [⟨g, gr, List.replicate m z0, 0⟩] by rw [hwz]; exact HB2.out.kept (below_ext _ _))
  have HXz := Lib.hid (show BankAt wa wz gx gxr (List.replicate m z0) 0 by rw [hwz]; exact HX2.out.kept (below_ext _ _))
  rw [← hwz]
  clear hwz HB2 HX2
  go_loopw [12, 48] (fun _ vk wr => ∃ (i : Nat) (L : List Slot) (cn : Int), i ≤ l.length ∧ vk = .int .i64 i ∧ L.length = m ∧ 0 ≤ cn ∧ cn ≤ i ∧ BoardAt wa wr gb gp (0 : Nat) m cap [⟨g, gr, L, cn⟩] ∧ BankAt wa wr gx gxr L cn) (fun _ vk _ => l.length - (intOf vk).toNat)
  case atStart => exact ⟨0, _, 0, by omega, rfl, by simp, by omega, by omega, HBz.out, HXz.out⟩
  case round =>
    clear HBz HXz
    obtain ⟨i, L, cn, hi9, rfl, hLl, hc0, hck, hb, hx⟩ := hrel
    have HB := Lib.hid hb
    have HX := Lib.hid hx
    have HLl := Lib.hid hLl
    clear hLl
    by_cases hlt : i < l.length
    · have hil : (i : Int) < (l.length : Int) := by omega
      have i0 : (0 : Int) ≤ i := by omega
      obtain ⟨b, o, rfl, hb, hcell⟩ := (HE.out.kept (HKa.out.trans hb.banks.kept)).at_ (i) hlt
      obtain ⟨e, hee⟩ : ∃ e, (l)[i]'hlt = e := ⟨_, rfl⟩
      rw [hee] at hcell
      have c0 : wr.cell? ⟨b, o + i * 9, none⟩ = some (.int .i64 e.bank) := hcell 0 (by omega)
      have c1 : wr.cell? ⟨b, o + i * 9 + 1, none⟩ = some (.int .i64 e.w.at_) := hcell 1 (by omega)
      have c2 : wr.cell? ⟨b, o + i * 9 + 2, none⟩ = some (.bool e.w.s.v) := hcell 2 (by omega)
      have c3 : wr.cell? ⟨b, o + i * 9 + 3, none⟩ = some (.int .u64 (hi e.w.s.e.x)) := hcell 3 (by omega)
      have c4 : wr.cell? ⟨b, o + i * 9 + 4, none⟩ = some (.int .u64 (lo e.w.s.e.x)) := hcell 4 (by omega)
      have c5 : wr.cell? ⟨b, o + i * 9 + 5, none⟩ = some (.int .u64 (hi e.w.s.e.m)) := hcell 5 (by omega)
      have c6 : wr.cell? ⟨b, o + i * 9 + 6, none⟩ = some (.int .u64 (lo e.w.s.e.m)) := hcell 6 (by omega)
      have c7 : wr.cell? ⟨b, o + i * 9 + 7, none⟩ = some (.int .i64 e.w.s.e.len) := hcell 7 (by omega)
      have c8 : wr.cell? ⟨b, o + i * 9 + 8, none⟩ = some (.int .i64 e.w.s.e.act) := hcell 8 (by omega)
      have Hee := Lib.hid hee
      clear hcell hee
      clear hb hx Hee
      go_wp2_with fail
      obtain ⟨gm, hgm⟩ : ∃ gm, gm = wr.heap.size := ⟨_, rfl⟩
      obtain ⟨w4, hw4⟩ : ∃ w4, w4 = wr.alloc (.cells #[.int .i64 0, .int .i64 e.w.at_, .bool e.w.s.v, .int .u64 (hi e.w.s.e.x), .int .u64 (lo e.w.s.e.x), .int .u64 (hi e.w.s.e.m), .int .u64 (lo e.w.s.e.m), .int .i64 e.w.s.e.len, .int .i64 e.w.s.e.act] 54) := ⟨_, rfl⟩
      have HM4 := Lib.hid (show Blk w4 gm 54 #[.int .i64 0, .int .i64 e.w.at_, .bool e.w.s.v, .int .u64 (hi e.w.s.e.x), .int .u64 (lo e.w.s.e.x), .int .u64 (hi e.w.s.e.m), .int .u64 (lo e.w.s.e.m), .int .i64 e.w.s.e.len, .int .i64 e.w.s.e.act] by rw [hw4]; exact Blk.new' wr _ _ hgm)
      have HK4 := Lib.hid (show Kept wr w4 by rw [hw4]; exact Kept.alloc (Kept.refl wr) _)
      have HG := Lib.hid (show (gm ≠ g ∧ gm ≠ gr) ∧ (gm ≠ gx ∧ gm ≠ gxr) by
        obtain ⟨h1, h2⟩ := HB.out.under.all ⟨g, gr, L, cn⟩ (by simp)
        obtain ⟨h3, h4⟩ := HX.out.blocks
        dsimp only at h1 h2
        omega)
      rw [← hgm, ← hw4]
      clear hgm hw4
      have hIc := IsBlk.cell (g := gm) (t := 54) (cs := #[.int .i64 0, .int .i64 e.w.at_, .bool e.w.s.v, .int .u64 (hi e.w.s.e.x), .int .u64 (lo e.w.s.e.x), .int .u64 (hi e.w.s.e.m), .int .u64 (lo e.w.s.e.m), .int .i64 e.w.s.e.len, .int .i64 e.w.s.e.act])
      have hne : Nonempty (In (IsBlk gm 54 #[.int .i64 0, .int .i64 e.w.at_, .bool e.w.s.v, .int .u64 (hi e.w.s.e.x), .int .u64 (lo e.w.s.e.x), .int .u64 (hi e.w.s.e.m), .int .u64 (lo e.w.s.e.m), .int .i64 e.w.s.e.len, .int .i64 e.w.s.e.act])) := ⟨⟨_, HM4.out⟩⟩
      obtain ⟨E, hE⟩ : ∃ E, doE e.w m = E := ⟨_, rfl⟩
      have HE9 := Lib.hid hE
      clear hE
      refine region_seq_in (IsBlk gm 54 #[.int .i64 0, .int .i64 e.w.at_, .bool e.w.s.v, .int .u64 (hi e.w.s.e.x), .int .u64 (lo e.w.s.e.x), .int .u64 (hi e.w.s.e.m), .int .u64 (lo e.w.s.e.m), .int .i64 e.w.s.e.len, .int .i64 e.w.s.e.act]) (HM4.out.kept (Kept.drawn1 (Kept.refl _))) mixed (by kernel_rfl) (by kernel_rfl) ?_
      intro W1 hW1
      have HM1 := Lib.hid (HM4.out.kept (Kept.drawn1 (Kept.refl _)))
      have HB1 := Lib.hid (HB.out.kept (Kept.drawn1 HK4.out))
      have HX1 := Lib.hid (HX.out.kept (Kept.drawn1 HK4.out))
      rw [← hW1] at HM1 HB1 HX1
      clear hW1 HM4 HB HX HK4
      repeat (refine seq_plain (by rfl) ?_; go_big_quiet_step (fail); refine wpQuiet_nil ?_)
      refine seq_move (by rfl) (by rfl) ?_
      go_wp2_with fail
      refine (one17_do HB1.out hc0 (by omega) e.w E HE9.out).mono ?_
      rintro e9 W2 ⟨rfl, hc2, hb2⟩
      have HM2 := Lib.hid (hc2.blk HM1.out HG.out.1.1 HG.out.1.2)
      have HB2 := Lib.hid hb2
      have HX2 := Lib.hid (HX1.out.chg hc2 hb2.banks.kept (by have := HL.out; have := HU.out.all ⟨g, gr, _, _⟩ (List.mem_singleton_self _); dsimp only at this; omega) (by have := HL.out; have := HU.out.all ⟨g, gr, _, _⟩ (List.mem_singleton_self _); dsimp only at this; omega) (by have := HL.out; have := HU.out.all ⟨g, gr, _, _⟩ (List.mem_singleton_self _); dsimp only at this; omega) (by have := HL.out; have := HU.out.all ⟨g, gr, _, _⟩ (List.mem_singleton_self _); dsimp only at this; omega))
      clear hc2 hb2 HM1 HB1 HX1
      go_wp2_with fail
      refine ⟨_, rfl, ⟨⟨_, HM2.out⟩, rfl⟩, ?_⟩
      repeat (refine seq_plain (by rfl) ?_; go_big_quiet_step (fail); refine wpQuiet_nil ?_)
      refine seq_move (by rfl) (by rfl) ?_
      go_wp2_with fail
      refine (one17_x HX2.out HLl.out hc0 (by omega) e.w E HE9.out).mono ?_
      rintro e9 W3 ⟨rfl, hc3, hx3⟩
      have HM3 := Lib.hid (hc3.blk HM2.out HG.out.2.1 HG.out.2.2)
      have HX3 := Lib.hid hx3
      have HB3 := Lib.hid (HB2.out.over (s := w1.heap.size) ⟨HU.out.b, HU.out.p, fun b hb => by rw [List.mem_singleton.1 hb]; exact HU.out.all ⟨g, gr, List.replicate m z0, 0⟩ (List.mem_singleton_self _)⟩ hc3 hx3.own.1 HL.out.1 HL.out.2)
      clear hc3 hx3 HM2 HB2 HX2
      go_wp2_with fail
      refine ⟨_, rfl, ⟨⟨_, HM3.out⟩, rfl⟩, ?_⟩
      repeat (refine seq_plain (by rfl) ?_; go_big_quiet_step (fail); refine wpQuiet_nil ?_)
      refine seq_nil ?_
      clear HM3 hIc hne
      go_wp2_with fail
      go_roundw
      case rel => exact ⟨i + 1, _, _, by omega, by go_num, by rw [putW_len]; exact HLl.out, by split <;> omega, by split <;> omega, HB3.out, HX3.out⟩
      case measure => simp [intOf]; omega
    · have hil : i = l.length := by omega
      subst hil
      have HKr := Lib.hid hb.banks.kept
      obtain ⟨y0, y1, yl⟩ := Blk.two (HBa.out.kept hb.banks.kept)
      obtain ⟨T, hT⟩ : ∃ T, tellS L a = T := ⟨_, rfl⟩
      obtain ⟨A, hA⟩ : ∃ A, entsS L = A := ⟨_, rfl⟩
      have hLn : L.length ≤ 1000 := by have := HLl.out; omega
      have htl := Lib.hid (fun W (h : BoardAt wa W gb gp (0 : Nat) m cap [⟨g, gr, L, cn⟩]) => show Calls Try.prog 13 #[.pointer (some ⟨gb, 0, none⟩), av a] W (Ret (.int .i64 T) W) by
        have := botell_any h (by omega) (by simp) a 0 (topN_zero a) (by simp)
        rwa [show ([⟨g, gr, L, cn⟩] : List Bk)[0].l = L from rfl, hT] at this)
      have hwr := Lib.hid (fun W (h : BoardAt wa W gb gp (0 : Nat) m cap [⟨g, gr, L, cn⟩]) => show Calls Try.prog 21 #[.pointer (some ⟨gb, 0, none⟩)] W (Ret (.int .i64 cn) W) by
        have := bowrites_any h (by simp) (by simp; omega)
        rwa [show sumB Bk.c [⟨g, gr, L, cn⟩] = cn by simp [sumB]] at this)
      have hva := Lib.hid (fun W (h : BoardAt wa W gb gp (0 : Nat) m cap [⟨g, gr, L, cn⟩]) => show Calls Try.prog 23 #[.pointer (some ⟨gb, 0, none⟩)] W (Ret (.int .i64 (A.length : Int)) W) by
        have := bovalid_any h (by simp)
        rwa [show sumB validB [⟨g, gr, L, cn⟩] = (A.length : Int) by simp [sumB, validB, hA]] at this)
      have hbt := Lib.hid (fun W (u : Value) (h : Els W u 7 Slot.cells L) => show Calls Try.prog 19 #[u, av a] W (Ret (.int .i64 T) W) by rw [← hT]; exact btell_any a W h hLn)
      have hbe := Lib.hid (fun W (u : Value) (h : Els W u 7 Slot.cells L) => show Calls Try.prog 24 #[u] W (RetEls 48 6 Ent.cells A W) by rw [← hA]; exact bentries_any W h hLn)
      have hbw := Lib.hid (fun W (h : BankAt wa W gx gxr L cn) => bwrites_any h)
      clear hb hx hlt hT hA hLn HBa
      go_wp2_with fail
      refine region_seq _ (Later.refl _) mixed (by kernel_rfl) (by kernel_rfl) ?_
      intro q9
      refine seq_named fun W1 hW1 => ?_
      have hC := Lib.hid (show ∃ p, W1 = ext _ p from ⟨q9, hW1⟩)
      clear hW1 q9
      repeat (first | (refine seq_plain (by rfl) ?_; go_big_quiet_step (fail); refine wpQuiet_nil ?_))
      have HBw := Lib.hid (HB.out.kept (Later.kept hC.out))
      have HXw := Lib.hid (HX.out.kept (Later.kept hC.out))
      clear HB HX
      repeat (first | (refine seq_plain (by rfl) ?_; go_big_quiet_step (fail); refine wpQuiet_nil ?_) | (refine seq_move (by rfl) (by rfl) ?_; go_wp2_with (first | (go_at_call 13; first | ((with_reducible refine (calls_in (htl.out _ (HBw.out.kept (kept_17 _ _)))).mono ?_); rintro e w1 ⟨rfl, q1, rfl⟩) | ((with_reducible refine (htl.out _ (HBw.out.kept (kept_17 _ _))).mono ?_); rintro e w1 ⟨rfl, q1, rfl⟩) | ((with_reducible refine (calls_in (htl.out _ HBw.out)).mono ?_); rintro e w1 ⟨rfl, q1, rfl⟩) | ((with_reducible refine (htl.out _ HBw.out).mono ?_); rintro e w1 ⟨rfl, q1, rfl⟩))); refine ⟨_, rfl, (class_kept hC (by first | exact below_ext _ _ | exact Kept.refl _)).out, ?_⟩))
      refine seq_move (by rfl) (by rfl) ?_
      go_wp2_with fail
      refine (bslots_any (HXw.out.kept (kept_17 _ _))).mono ?_
      rintro e w2 hR
      obtain ⟨a2, c2, rfl, hlc2, hown2, hels2⟩ := RetEls.out2 Slot.cells_len hR
      have hkk := kept_on hC (by first | exact .inl rfl | exact .inr ⟨_, rfl⟩) hown2.1
      replace hC := class_kept hC hkk
      have HE2 := Lib.hid hels2
      replace HBw := Lib.hid (HBw.out.kept hkk)
      replace HXw := Lib.hid (HXw.out.kept hkk)
      clear hown2 hels2 hR hkk
      go_wp2_with fail
      refine ⟨_, rfl, hC.out, ?_⟩
      repeat (first | (refine seq_plain (by rfl) ?_; go_big_quiet_step (fail); refine wpQuiet_nil ?_) | (refine seq_move (by rfl) (by rfl) ?_; go_wp2_with (first | (go_at_call 19; first | ((refine (calls_in (hbt.out _ _ HE2.out)).mono ?_); rintro e w1 ⟨rfl, q1, rfl⟩) | ((refine (hbt.out _ _ HE2.out).mono ?_); rintro e w1 ⟨rfl, q1, rfl⟩)) | (go_at_call 21; first | ((with_reducible refine (calls_in (hwr.out _ (HBw.out.kept (kept_17 _ _)))).mono ?_); rintro e w1 ⟨rfl, q1, rfl⟩) | ((with_reducible refine (hwr.out _ (HBw.out.kept (kept_17 _ _))).mono ?_); rintro e w1 ⟨rfl, q1, rfl⟩) | ((with_reducible refine (calls_in (hwr.out _ HBw.out)).mono ?_); rintro e w1 ⟨rfl, q1, rfl⟩) | ((with_reducible refine (hwr.out _ HBw.out).mono ?_); rintro e w1 ⟨rfl, q1, rfl⟩)) | (go_at_call 22; first | ((with_reducible refine (calls_in (hbw.out _ (HXw.out.kept (kept_17 _ _)))).mono ?_); rintro e w1 ⟨rfl, q1, rfl⟩) | ((with_reducible refine (hbw.out _ (HXw.out.kept (kept_17 _ _))).mono ?_); rintro e w1 ⟨rfl, q1, rfl⟩) | ((with_reducible refine (calls_in (hbw.out _ HXw.out)).mono ?_); rintro e w1 ⟨rfl, q1, rfl⟩) | ((with_reducible refine (hbw.out _ HXw.out).mono ?_); rintro e w1 ⟨rfl, q1, rfl⟩)) | (go_at_call 23; first | ((with_reducible refine (calls_in (hva.out _ (HBw.out.kept (kept_17 _ _)))).mono ?_); rintro e w1 ⟨rfl, q1, rfl⟩) | ((with_reducible refine (hva.out _ (HBw.out.kept (kept_17 _ _))).mono ?_); rintro e w1 ⟨rfl, q1, rfl⟩) | ((with_reducible refine (calls_in (hva.out _ HBw.out)).mono ?_); rintro e w1 ⟨rfl, q1, rfl⟩) | ((with_reducible refine (hva.out _ HBw.out).mono ?_); rintro e w1 ⟨rfl, q1, rfl⟩))); refine ⟨_, rfl, (class_kept hC (by first | exact below_ext _ _ | exact Kept.refl _)).out, ?_⟩))
      refine seq_move (by rfl) (by rfl) ?_
      go_wp2_with fail
      refine (bslots_any (HXw.out.kept (kept_17 _ _))).mono ?_
      rintro e w3 hR
      obtain ⟨a3, c3, rfl, hlc3, hown3, hels3⟩ := RetEls.out2 Slot.cells_len hR
      have hkk := kept_on hC (by first | exact .inl rfl | exact .inr ⟨_, rfl⟩) hown3.1
      replace hC := class_kept hC hkk
      have HE3 := Lib.hid hels3
      replace HBw := Lib.hid (HBw.out.kept hkk)
      replace HXw := Lib.hid (HXw.out.kept hkk)
      clear hown3 hels3 hR hkk
      go_wp2_with fail
      refine ⟨_, rfl, hC.out, ?_⟩
      repeat (first | (refine seq_plain (by rfl) ?_; go_big_quiet_step (fail); refine wpQuiet_nil ?_))
      refine seq_move (by rfl) (by rfl) ?_
      go_wp2_with fail
      refine (hbe.out _ _ HE3.out).mono ?_
      rintro e w4 hR
      obtain ⟨a4, c4, rfl, hlc4, hown4, hels4⟩ := RetEls.out2 Ent.cells_len hR
      have hkk := kept_on hC (by first | exact .inl rfl | exact .inr ⟨_, rfl⟩) hown4.1
      replace hC := class_kept hC hkk
      have HE4 := Lib.hid hels4
      clear hown4 hels4 hR hkk
      go_wp2_with fail
      refine ⟨_, rfl, hC.out, ?_⟩
      repeat (first | (refine seq_plain (by rfl) ?_; go_big_quiet_step (fail); refine wpQuiet_nil ?_) | (refine seq_move (by rfl) (by rfl) ?_; go_wp2_with (first | (go_at_call 8; first | ((refine (calls_in (awake17_ok _)).mono ?_); rintro e w1 ⟨rfl, q1, rfl⟩) | ((refine (awake17_ok _).mono ?_); rintro e w1 ⟨rfl, q1, rfl⟩))); refine ⟨_, rfl, (class_kept hC (by first | exact below_ext _ _ | exact Kept.refl _)).out, ?_⟩))
      refine seq_nil ?_
      have hkC := Later.kept hC.out
      clear hC
      have hkf := Lib.hid (HKa.out.trans (HKr.out.trans hkC))
      clear hkC
      go_wp2_with fail
      go_ret
      exact Ret.of (rfl) (by simp (maxDischargeDepth := 99) [hkf.out])
set_option maxHeartbeats 2000000 in
set_option maxRecDepth 100000 in
theorem boardOne_walk (n : Int) (_ : -9223372036854775808 ≤ n) (_ : n ≤ 9223372036854775807) (l : List Mv) (v : Value) (a : B) (w : World) (hl : Els w v 9 Mv.cells l) : Calls Try.prog 4 #[.int .i64 n, v, av a] w (Ret (.bool true) w) := by
  by_cases hr : 1 ≤ n ∧ n ≤ 256
  · obtain ⟨m, rfl⟩ := Int.eq_ofNat_of_zero_le (show 0 ≤ n by omega)
    have h1 : 1 ≤ m := by omega
    have h2 : m ≤ 256 := by omega
    have hnew := Lib.hid (fun W => one17_new m h1 h2 W)
    have hbn := Lib.hid (fun W => bnew_yes m W h1 h2)
    by_cases hn : l.length ≤ 30
    · by_cases hm : m ≤ 20
      · exact boardOne_go m h1 hm a w hl hn
      · obtain ⟨ad, c, rfl, hc, he⟩ := hl.form
        have hmay := Lib.hid (fun W => law17may_any 0 m false (by simp; omega) W)
        have g1 : ¬ (30 : Int) < (l.length : Int) := by omega
        clear hl he hn hm hr h1 h2
        go_enter Try.func4, Try.ntmps4
        go_wp2_with fail
        refine (hnew.out _).mono ?_
        rintro e w1 ⟨gb, gp, cap, g, gr, rfl, hk1, hb1⟩
        have HK1 := Lib.hid hk1
        clear hk1 hb1
        go_wp2_with fail
        refine (hbn.out _).mono ?_
        rintro e w2 ⟨gx, gxr, rfl, hk2, hx2⟩
        have HK2 := Lib.hid ((Kept.alloc (Kept.refl _) _).trans (HK1.out.trans hk2))
        clear hk2 hx2 HK1
        go_wp2_with (first | (go_at_call 7; first | ((refine (calls_in (hmay.out _)).mono ?_); rintro e w1 ⟨rfl, q1, rfl⟩) | ((refine (hmay.out _).mono ?_); rintro e w1 ⟨rfl, q1, rfl⟩)) | (go_at_call 8; first | ((refine (calls_in (awake17_ok _)).mono ?_); rintro e w1 ⟨rfl, q1, rfl⟩) | ((refine (awake17_ok _).mono ?_); rintro e w1 ⟨rfl, q1, rfl⟩)))
        go_ret
        exact Ret.of (rfl) (by simp (maxDischargeDepth := 99) [HK2.out])
    · obtain ⟨ad, c, rfl, hc, he⟩ := hl.form
      have g1 : (30 : Int) < (l.length : Int) := by omega
      clear hl he hn hr h1 h2
      go_enter Try.func4, Try.ntmps4
      go_wp2_with fail
      refine (hnew.out _).mono ?_
      rintro e w1 ⟨gb, gp, cap, g, gr, rfl, hk1, hb1⟩
      have HK1 := Lib.hid hk1
      clear hk1 hb1
      go_wp2_with fail
      refine (hbn.out _).mono ?_
      rintro e w2 ⟨gx, gxr, rfl, hk2, hx2⟩
      have HK2 := Lib.hid ((Kept.alloc (Kept.refl _) _).trans (HK1.out.trans hk2))
      clear hk2 hx2 HK1
      go_wp2_with (first | (go_at_call 8; first | ((refine (calls_in (awake17_ok _)).mono ?_); rintro e w1 ⟨rfl, q1, rfl⟩) | ((refine (awake17_ok _).mono ?_); rintro e w1 ⟨rfl, q1, rfl⟩)))
      go_ret
      exact Ret.of (rfl) (by simp (maxDischargeDepth := 99) [HK2.out])
  · have hnew := Lib.hid (fun W => bonew_n 0 (by omega) n hr W)
    have hbn := Lib.hid (fun W => bnew_no n W hr)
    obtain ⟨ad, c, rfl, hc, he⟩ := hl.form
    by_cases hn : l.length ≤ 30
    · have hmay := Lib.hid (fun W => law17may_any 0 n false (by simp; omega) W)
      have g1 : ¬ (30 : Int) < (l.length : Int) := by omega
      clear hl he hn hr
      go_enter Try.func4, Try.ntmps4
      go_wp2_with (first | (go_at_call 15; first | ((refine (calls_in (hnew.out _)).mono ?_); rintro e w1 ⟨rfl, q1, rfl⟩) | ((refine (hnew.out _).mono ?_); rintro e w1 ⟨rfl, q1, rfl⟩)) | (go_at_call 16; first | ((refine (calls_in (hbn.out _)).mono ?_); rintro e w1 ⟨rfl, q1, rfl⟩) | ((refine (hbn.out _).mono ?_); rintro e w1 ⟨rfl, q1, rfl⟩)) | (go_at_call 7; first | ((refine (calls_in (hmay.out _)).mono ?_); rintro e w1 ⟨rfl, q1, rfl⟩) | ((refine (hmay.out _).mono ?_); rintro e w1 ⟨rfl, q1, rfl⟩)) | (go_at_call 8; first | ((refine (calls_in (awake17_ok _)).mono ?_); rintro e w1 ⟨rfl, q1, rfl⟩) | ((refine (awake17_ok _).mono ?_); rintro e w1 ⟨rfl, q1, rfl⟩)))
      go_ret
      exact Ret.of (rfl) (by simp (maxDischargeDepth := 99))
    · have g1 : (30 : Int) < (l.length : Int) := by omega
      clear hl he hn hr
      go_enter Try.func4, Try.ntmps4
      go_wp2_with (first | (go_at_call 15; first | ((refine (calls_in (hnew.out _)).mono ?_); rintro e w1 ⟨rfl, q1, rfl⟩) | ((refine (hnew.out _).mono ?_); rintro e w1 ⟨rfl, q1, rfl⟩)) | (go_at_call 16; first | ((refine (calls_in (hbn.out _)).mono ?_); rintro e w1 ⟨rfl, q1, rfl⟩) | ((refine (hbn.out _).mono ?_); rintro e w1 ⟨rfl, q1, rfl⟩)) | (go_at_call 8; first | ((refine (calls_in (awake17_ok _)).mono ?_); rintro e w1 ⟨rfl, q1, rfl⟩) | ((refine (awake17_ok _).mono ?_); rintro e w1 ⟨rfl, q1, rfl⟩)))
      go_ret
      exact Ret.of (rfl) (by simp (maxDischargeDepth := 99))
set_option maxRecDepth 100000 in
theorem boardOne_lifted (os : Os) (started : os.Started) (H : Type) (enc : TypeId × Value → H) :
    ReturnsInHanded {} Try.checked os 4 .any (Rows.boardOneSpec.pre6 enc Try.prog Try.f4 Rows.boardOneRow.domain false) (Rows.boardOneSpec.post enc Try.prog Try.f4 false true false false) := by
  refine returnsInHanded_of_change (C := Try.checked) own started (by kernel_rfl) Try.func4
    (ChangeSpec.witness6 (enc := enc) (C := Try.checked) false ⟨#[], #[.int .i64 0, .slice none 0 0, .agg #[.int .u64 0, .int .u64 0]], []⟩ 8 (by kernel_rfl) (by kernel_rfl) (by kernel_rfl) (by kernel_rfl)) ?_
  intro W base args ds gs before hval0 hW hcnd _
  have hval : ∀ (j : Nat) t v, Try.f4.params[j]? = some t → args[j]? = some v → Value.okWide Try.prog W .any base t v := hval0
  have hW' := hW
  obtain ⟨p, q, hA0, hV, rfl, hfz, hnd⟩ := hW
  obtain ⟨rfl, rfl⟩ := trodVars_none hV
  rw [List.append_nil] at hW'
  have hA : DataW.TrodAll enc Try.prog W 0 (fun _ => true) true Try.f4.params.toList args.toList ds p := hA0
  have hA1 := hA
  rw [Try.params4] at hA1 hval
  obtain ⟨v0, vs0, d0, ds0, p0, q0, hargs, rfl, rfl, h0, r0⟩ := trodAll_cons hA1
  obtain ⟨v1, vs1, d1, ds1, p1, q1, rfl, rfl, rfl, h1, r1⟩ := trodAll_cons r0
  obtain ⟨v2, vs2, d2, ds2, p2, q2, rfl, rfl, rfl, h2, r2⟩ := trodAll_cons r1
  obtain ⟨rfl, rfl, rfl⟩ := trodAll_nil r2
  obtain rfl : args = #[v0, v1, v2] := by cases args; simp_all
  obtain ⟨X0, rfl, rfl, rfl, w0⟩ := open_int Try.underlying3 (hval 0 _ v0 rfl rfl) h0
  obtain ⟨L1, E1, _⟩ := open_moves (hval 1 _ v1 rfl rfl) h1
  obtain ⟨X2, rfl⟩ := open_addr (hval 2 _ v2 rfl rfl) h2
  refine (boardOne_walk X0 (wf_i64' w0).1 (wf_i64' w0).2 L1 v1 X2 W E1).mono fun e W' ⟨he, hg⟩ => ?_
  subst he
  exact ⟨_, rfl, post_true laidOut (by rw [Try.params4]; intro t ht; simp at ht; first | (subst ht; exact ⟨by kernel_rfl, of_decide_eq_true (by kernel_rfl)⟩) | (rcases ht with rfl | rfl <;> exact ⟨by kernel_rfl, of_decide_eq_true (by kernel_rfl)⟩) | (rcases ht with rfl | rfl | rfl <;> exact ⟨by kernel_rfl, of_decide_eq_true (by kernel_rfl)⟩) | (rcases ht with rfl | rfl | rfl | rfl <;> exact ⟨by kernel_rfl, of_decide_eq_true (by kernel_rfl)⟩)) rfl hW' hA rfl (trodAll_cons_mk (shut_bool Try.underlying4 _) trodAll_mk0) (Later.kept hg)⟩

theorem boardOne_holds : Rows.BoardOneSaid :=
  OpenClaim.holds_of_wide 4 Try.f4 rfl rfl rfl rfl rfl rfl rfl ⟨rfl, rfl, rfl, rfl, rfl⟩ rfl rfl rfl rfl rfl (by kernel_rfl) Try.func4 (by kernel_rfl)
    (of_decide_eq_true (by kernel_rfl)) (by unfold Func.isWrapper; first | (rw [if_pos (by decide +kernel)]; kernel_rfl) | (rw [if_neg (by decide +kernel)]; exact ⟨rfl, rfl⟩))
    (fun os started H enc _ => boardOne_lifted os started H enc)
#print axioms boardOne_holds
end Go.Proofs.Ytemfocnjlimicaa
