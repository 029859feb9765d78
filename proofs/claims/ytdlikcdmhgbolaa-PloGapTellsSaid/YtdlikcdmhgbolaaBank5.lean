/- Slots as lists: Same of equal rows. -/
import Derived.Test.YtdlikcdmhgbolaaBank4
namespace Go.Proofs.Ytdlikcdmhgbolaa
open Go.RowKit Pg

set_option maxHeartbeats 1000000 in
set_option maxRecDepth 100000 in
theorem same_any {l : List Slot} {v u : Value} (w : World) (hl : Els w v 7 Slot.cells l) (hm : Els w u 7 Slot.cells l) (hn : l.length ≤ 1000) : Calls Try.prog 14 #[v, u] w (Ret (.bool true) w) := by
  obtain ⟨a, c, rfl, hc, he⟩ := hl.form
  obtain ⟨a2, c2, rfl, hc2, he2⟩ := hm.form
  have HE := Lib.hid he
  have HE2 := Lib.hid he2
  clear hl he hm he2
  go_enter Try.func14, Try.ntmps14
  go_wp2_with fail
  go_loopw [5, 13] (fun _ vk wr => ∃ k : Nat, k ≤ l.length ∧ vk = .int .i64 k ∧ Kept w wr) (fun _ k _ => l.length - (intOf k).toNat)
  case atStart => exact ⟨0, by omega, rfl, by simp (maxDischargeDepth := 99)⟩
  case round =>
    obtain ⟨k, hk, rfl, hkw⟩ := hrel
    have HX := Lib.hid hkw
    by_cases hlt : k < l.length
    · obtain ⟨bA, oA, rfl, hbA, hcellA⟩ := (HE.out.kept hkw).at_ (k) hlt
      obtain ⟨eA, heeA⟩ : ∃ e, (l)[k]'hlt = e := ⟨_, rfl⟩
      rw [heeA] at hcellA
      have cA0 : wr.cell? ⟨bA, oA + k * 7, none⟩ = some (.bool eA.v) := hcellA 0 (by omega)
      have cA1 : wr.cell? ⟨bA, oA + k * 7 + 1, none⟩ = some (.int .u64 (hi eA.e.x)) := hcellA 1 (by omega)
      have cA2 : wr.cell? ⟨bA, oA + k * 7 + 2, none⟩ = some (.int .u64 (lo eA.e.x)) := hcellA 2 (by omega)
      have cA3 : wr.cell? ⟨bA, oA + k * 7 + 3, none⟩ = some (.int .u64 (hi eA.e.m)) := hcellA 3 (by omega)
      have cA4 : wr.cell? ⟨bA, oA + k * 7 + 4, none⟩ = some (.int .u64 (lo eA.e.m)) := hcellA 4 (by omega)
      have cA5 : wr.cell? ⟨bA, oA + k * 7 + 5, none⟩ = some (.int .i64 eA.e.len) := hcellA 5 (by omega)
      have cA6 : wr.cell? ⟨bA, oA + k * 7 + 6, none⟩ = some (.int .i64 eA.e.act) := hcellA 6 (by omega)
      have HeeA := Lib.hid heeA
      clear hcellA heeA
      obtain ⟨bZ, oZ, rfl, hbZ, hcellZ⟩ := (HE2.out.kept hkw).at_ (k) hlt
      obtain ⟨eZ, heeZ⟩ : ∃ e, (l)[k]'hlt = e := ⟨_, rfl⟩
      rw [heeZ] at hcellZ
      have cZ0 : wr.cell? ⟨bZ, oZ + k * 7, none⟩ = some (.bool eZ.v) := hcellZ 0 (by omega)
      have cZ1 : wr.cell? ⟨bZ, oZ + k * 7 + 1, none⟩ = some (.int .u64 (hi eZ.e.x)) := hcellZ 1 (by omega)
      have cZ2 : wr.cell? ⟨bZ, oZ + k * 7 + 2, none⟩ = some (.int .u64 (lo eZ.e.x)) := hcellZ 2 (by omega)
      have cZ3 : wr.cell? ⟨bZ, oZ + k * 7 + 3, none⟩ = some (.int .u64 (hi eZ.e.m)) := hcellZ 3 (by omega)
      have cZ4 : wr.cell? ⟨bZ, oZ + k * 7 + 4, none⟩ = some (.int .u64 (lo eZ.e.m)) := hcellZ 4 (by omega)
      have cZ5 : wr.cell? ⟨bZ, oZ + k * 7 + 5, none⟩ = some (.int .i64 eZ.e.len) := hcellZ 5 (by omega)
      have cZ6 : wr.cell? ⟨bZ, oZ + k * 7 + 6, none⟩ = some (.int .i64 eZ.e.act) := hcellZ 6 (by omega)
      have HeeZ := Lib.hid heeZ
      clear hcellZ heeZ
      obtain rfl : eA = eZ := by rw [← HeeA.out, ← HeeZ.out]
      have hkl : (k : Int) < (l.length : Int) := by omega
      have k0 : (0 : Int) ≤ k := by omega
      clear hkw HeeA HeeZ
      go_wp2_with fail
      refine region_ext _ (Later.refl _) mixed (by kernel_rfl) ?_
      repeat (go_big_quiet_step ((first | (go_at_call 27; exact calls_in (law08one_any _ _)))))
      refine wpQuiet_nil ?_
      rintro _ ⟨q, rfl⟩
      go_wp2_with fail
      go_roundw
      case rel => exact ⟨k + 1, by omega, by go_num, HX.out.ext _⟩
      case measure => simp [intOf]; omega
    · have hkl : k = l.length := by omega
      subst hkl
      clear hkw hlt
      go_wp2_with fail
      go_ret
      exact Ret.of (rfl) (by simp (maxDischargeDepth := 99) [HX.out])
end Go.Proofs.Ytdlikcdmhgbolaa
