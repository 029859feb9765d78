/- The statements of layer 12: a slot of a length; whether writes are the reference's. -/
import Derived.Test.YtdlikcdmhgbolaaPlo3
import Derived.Test.YtdlikcdmhgbolaaMathJ
import Derived.Test.YtdlikcdmhgbolaaBank6
namespace Pg
open Go Go.RowKit
theorem els_blkS {w : World} {g : Nat} {t : TypeId} (l : List Slot) (h : Blk w g t (l.flatMap Slot.cells).toArray) (c : Nat) (hc : l.length ≤ c) : Els w (.slice (some ⟨g, 0, none⟩) l.length c) 7 Slot.cells l :=
  ⟨_, c, rfl, hc, fun _ => ⟨g, 0, rfl, h.lt, fun i hi' j hj => by
    rw [Nat.zero_add, h.cell]
    rw [List.getElem?_toArray]
    exact flat_get Slot.cells_len l i hi' j hj⟩⟩
def x16 : B := BitVec.ofNat 128 (1152921504606846976 * 2 ^ 64)
def x08 : B := BitVec.ofNat 128 (576460752303423488 * 2 ^ 64)
theorem x16_words : hi x16 = 1152921504606846976 ∧ lo x16 = 0 := by decide +kernel
theorem x08_words : hi x08 = 576460752303423488 ∧ lo x08 = 0 := by decide +kernel
def s16 : Slot := ⟨true, ⟨x16, maskB 16, 16, 1⟩⟩
def s08 : Slot := ⟨true, ⟨x08, maskB 8, 8, 1⟩⟩
theorem x16_cut : x16 &&& maskB (near 16) = x16 := by decide +kernel
theorem x08_cut : x08 &&& maskB (near 8) = x08 := by decide +kernel
theorem x16_of : ofE x16 16 1 = s16.e := by
  unfold ofE s16
  rw [x16_cut, show near 16 = 16 by decide]; rfl
theorem x08_of : ofE x08 8 1 = s08.e := by
  unfold ofE s08
  rw [x08_cut, show near 8 = 8 by decide]; rfl
end Pg
namespace Go.Proofs.Ytdlikcdmhgbolaa
open Go.RowKit Pg

theorem awake12_mk16 (w : World) : Calls Try.prog 46 #[.agg #[.int .u64 1152921504606846976, .int .u64 0], .int .i64 16] w (Ret (pv x16 16) w) := by
  have := make_any x16 16 w
  obtain ⟨e0, e1⟩ := x16_words
  unfold av at this
  rw [e0, e1, x16_cut, show near 16 = 16 by decide] at this
  exact this
theorem awake12_mk08 (w : World) : Calls Try.prog 46 #[.agg #[.int .u64 576460752303423488, .int .u64 0], .int .i64 8] w (Ret (pv x08 8) w) := by
  have := make_any x08 8 w
  obtain ⟨e0, e1⟩ := x08_words
  unfold av at this
  rw [e0, e1, x08_cut, show near 8 = 8 by decide] at this
  exact this
theorem awake12_of16 (w : World) : Calls Try.prog 45 #[pv x16 16, .int .i64 1] w (Ret (ev s16.e) w) := by
  have := eof_any x16 16 1 w; rwa [x16_of] at this
theorem awake12_of08 (w : World) : Calls Try.prog 45 #[pv x08 8, .int .i64 1] w (Ret (ev s08.e) w) := by
  have := eof_any x08 8 1 w; rwa [x08_of] at this
set_option maxHeartbeats 1000000 in
set_option maxRecDepth 100000 in
theorem awake12_slot16 (w : World) : Calls Try.prog 26 #[.int .i64 16] w (Ret (slv s16) w) := by
  go_enter Try.func26, Try.ntmps26
  go_wp2_with fail
  obtain ⟨wa, hwa⟩ : ∃ wa, wa = w.alloc (.cells #[.bool false, .int .u64 0, .int .u64 0, .int .u64 0, .int .u64 0, .int .i64 0, .int .i64 0] 58) := ⟨_, rfl⟩
  have HKa := Lib.hid (show Kept w wa by rw [hwa]; exact Kept.alloc (Kept.refl w) _)
  have HBa := Lib.hid (show Blk wa w.heap.size 58 #[.bool false, .int .u64 0, .int .u64 0, .int .u64 0, .int .u64 0, .int .i64 0, .int .i64 0] by rw [hwa]; exact Blk.new' w _ _ rfl)
  rw [← hwa]
  clear hwa
  refine (awake12_mk16 _).mono ?_
  rintro e w1 ⟨rfl, q1, rfl⟩
  go_wp2_with fail
  refine (awake12_of16 _).mono ?_
  rintro e w1 ⟨rfl, q2, rfl⟩
  obtain ⟨wb, hwb⟩ : ∃ wb, wb = ext (ext wa q1) q2 := ⟨_, rfl⟩
  have HS := Lib.hid (show Kept wa wb by rw [hwb]; exact (kept_extP _ _).trans (kept_extP _ _))
  rw [← hwb]
  clear hwb
  have HKb := Lib.hid (HKa.out.trans HS.out)
  have HBb := Lib.hid (HBa.out.kept HS.out)
  have z := fun j => HBb.out.cell j
  have zl := HBb.out.lt
  have rf := HBb.out.frozen
  go_wp2_with fail
  exact bodyPost_ret (v := slv s16) (by simp [results, Try.results26, go_sem, slv, z, show s16.v = true from rfl]) rfl (Ret.mk (by simp (maxDischargeDepth := 99) [HKb.out]))
set_option maxHeartbeats 1000000 in
set_option maxRecDepth 100000 in
theorem awake12_slot08 (w : World) : Calls Try.prog 26 #[.int .i64 8] w (Ret (slv s08) w) := by
  go_enter Try.func26, Try.ntmps26
  go_wp2_with fail
  obtain ⟨wa, hwa⟩ : ∃ wa, wa = w.alloc (.cells #[.bool false, .int .u64 0, .int .u64 0, .int .u64 0, .int .u64 0, .int .i64 0, .int .i64 0] 58) := ⟨_, rfl⟩
  have HKa := Lib.hid (show Kept w wa by rw [hwa]; exact Kept.alloc (Kept.refl w) _)
  have HBa := Lib.hid (show Blk wa w.heap.size 58 #[.bool false, .int .u64 0, .int .u64 0, .int .u64 0, .int .u64 0, .int .i64 0, .int .i64 0] by rw [hwa]; exact Blk.new' w _ _ rfl)
  rw [← hwa]
  clear hwa
  refine (awake12_mk08 _).mono ?_
  rintro e w1 ⟨rfl, q1, rfl⟩
  go_wp2_with fail
  refine (awake12_of08 _).mono ?_
  rintro e w1 ⟨rfl, q2, rfl⟩
  obtain ⟨wb, hwb⟩ : ∃ wb, wb = ext (ext wa q1) q2 := ⟨_, rfl⟩
  have HS := Lib.hid (show Kept wa wb by rw [hwb]; exact (kept_extP _ _).trans (kept_extP _ _))
  rw [← hwb]
  clear hwb
  have HKb := Lib.hid (HKa.out.trans HS.out)
  have HBb := Lib.hid (HBa.out.kept HS.out)
  have z := fun j => HBb.out.cell j
  have zl := HBb.out.lt
  have rf := HBb.out.frozen
  go_wp2_with fail
  exact bodyPost_ret (v := slv s08) (by simp [results, Try.results26, go_sem, slv, z, show s08.v = true from rfl]) rfl (Ret.mk (by simp (maxDischargeDepth := 99) [HKb.out]))
set_option maxHeartbeats 1000000 in
set_option maxRecDepth 100000 in
theorem law12writes_any {l : List Wr} {v u : Value} (w : World) (hl : Els w v 8 Wr.cells l) (hm : Els w u 8 Wr.cells l) (hn : l.length ≤ 1000) : Calls Try.prog 13 #[v, u] w (Ret (.bool true) w) := by
  have hwr := Lib.hid (law08writes_any w hl hn)
  obtain ⟨a, c, rfl, hc, he⟩ := hl.form
  obtain ⟨a2, c2, rfl, hc2, he2⟩ := hm.form
  have HE2 := Lib.hid he2
  clear hl he hm he2
  go_enter Try.func13, Try.ntmps13
  go_wp2_with fail
  refine (hwr.out).mono ?_
  rintro e w1 hR
  obtain ⟨a1, c1, rfl, hlc1, hown1, hels1⟩ := RetEls.out2 Wr.cells_len hR
  have HE1 := Lib.hid hels1
  have HK1 := Lib.hid hown1.1
  clear hown1 hels1 hR
  go_wp2_with fail
  go_loopw [6, 16] (fun _ vk wr => ∃ k : Nat, k ≤ l.length ∧ vk = .int .i64 k ∧ Kept w1 wr) (fun _ k _ => l.length - (intOf k).toNat)
  case atStart => exact ⟨0, by omega, rfl, Kept.refl _⟩
  case round =>
    obtain ⟨k, hk, rfl, hkw⟩ := hrel
    have HX := Lib.hid hkw
    by_cases hlt : k < l.length
    · obtain ⟨bA, oA, rfl, hbA, hcellA⟩ := (HE1.out.kept hkw).at_ (k) hlt
      obtain ⟨eA, heeA⟩ : ∃ e, (l)[k]'hlt = e := ⟨_, rfl⟩
      rw [heeA] at hcellA
      have cA0 : wr.cell? ⟨bA, oA + k * 8, none⟩ = some (.int .i64 eA.at_) := hcellA 0 (by omega)
      have cA1 : wr.cell? ⟨bA, oA + k * 8 + 1, none⟩ = some (.bool eA.s.v) := hcellA 1 (by omega)
      have cA2 : wr.cell? ⟨bA, oA + k * 8 + 2, none⟩ = some (.int .u64 (hi eA.s.e.x)) := hcellA 2 (by omega)
      have cA3 : wr.cell? ⟨bA, oA + k * 8 + 3, none⟩ = some (.int .u64 (lo eA.s.e.x)) := hcellA 3 (by omega)
      have cA4 : wr.cell? ⟨bA, oA + k * 8 + 4, none⟩ = some (.int .u64 (hi eA.s.e.m)) := hcellA 4 (by omega)
      have cA5 : wr.cell? ⟨bA, oA + k * 8 + 5, none⟩ = some (.int .u64 (lo eA.s.e.m)) := hcellA 5 (by omega)
      have cA6 : wr.cell? ⟨bA, oA + k * 8 + 6, none⟩ = some (.int .i64 eA.s.e.len) := hcellA 6 (by omega)
      have cA7 : wr.cell? ⟨bA, oA + k * 8 + 7, none⟩ = some (.int .i64 eA.s.e.act) := hcellA 7 (by omega)
      have HeeA := Lib.hid heeA
      clear hcellA heeA
      obtain ⟨bZ, oZ, rfl, hbZ, hcellZ⟩ := (HE2.out.kept (HK1.out.trans hkw)).at_ (k) hlt
      obtain ⟨eZ, heeZ⟩ : ∃ e, (l)[k]'hlt = e := ⟨_, rfl⟩
      rw [heeZ] at hcellZ
      have cZ0 : wr.cell? ⟨bZ, oZ + k * 8, none⟩ = some (.int .i64 eZ.at_) := hcellZ 0 (by omega)
      have cZ1 : wr.cell? ⟨bZ, oZ + k * 8 + 1, none⟩ = some (.bool eZ.s.v) := hcellZ 1 (by omega)
      have cZ2 : wr.cell? ⟨bZ, oZ + k * 8 + 2, none⟩ = some (.int .u64 (hi eZ.s.e.x)) := hcellZ 2 (by omega)
      have cZ3 : wr.cell? ⟨bZ, oZ + k * 8 + 3, none⟩ = some (.int .u64 (lo eZ.s.e.x)) := hcellZ 3 (by omega)
      have cZ4 : wr.cell? ⟨bZ, oZ + k * 8 + 4, none⟩ = some (.int .u64 (hi eZ.s.e.m)) := hcellZ 4 (by omega)
      have cZ5 : wr.cell? ⟨bZ, oZ + k * 8 + 5, none⟩ = some (.int .u64 (lo eZ.s.e.m)) := hcellZ 5 (by omega)
      have cZ6 : wr.cell? ⟨bZ, oZ + k * 8 + 6, none⟩ = some (.int .i64 eZ.s.e.len) := hcellZ 6 (by omega)
      have cZ7 : wr.cell? ⟨bZ, oZ + k * 8 + 7, none⟩ = some (.int .i64 eZ.s.e.act) := hcellZ 7 (by omega)
      have HeeZ := Lib.hid heeZ
      clear hcellZ heeZ
      obtain rfl : eA = eZ := by rw [← HeeA.out, ← HeeZ.out]
      have hkl : (k : Int) < (l.length : Int) := by omega
      have k0 : (0 : Int) ≤ k := by omega
      clear hkw HeeA HeeZ
      go_wp2_with fail
      refine region_ext _ (Later.refl _) mixed (by kernel_rfl) ?_
      repeat (go_big_quiet_step (fail))
      refine wpQuiet_nil ?_
      rintro _ ⟨q, rfl⟩
      go_wp2_with fail
      go_roundw
      case rel => exact ⟨k + 1, by omega, by go_num, HX.out.ext _⟩
      case measure => simp [intOf]; omega
    · have hkl : k = l.length := by omega
      subst hkl
      clear hkw hlt
      go_wp2_with fail
      go_ret
      exact Ret.of (rfl) (by simp (maxDischargeDepth := 99) [HK1.out.trans HX.out])
end Go.Proofs.Ytdlikcdmhgbolaa
