/- The entries that have to do with a bank: the contract of split.Part. -/
import Derived.Test.YtlmadimnoknheaaSplit2
import Derived.Test.YtlmadimnoknheaaSlEnt
import Derived.Test.YtlmadimnoknheaaEnt
namespace Pg
def partL (k j : Nat) (l : List Ent) : List Ent := l.filter fun e => meetAt k e.x e.m j
end Pg
namespace Go.Proofs.Ytlmadimnoknheaa
open Go.RowKit Pg

theorem part1_gives (k : Nat) (h : k ≤ 3) (j : Nat) (hj : j < 2 ^ k) (bk ba : Nat) (tk ta : TypeId) (w : World) (hk : Blk w bk tk #[.int .i64 (k : Int)]) (ha : Blk w ba ta #[.int .i64 (j : Int)]) :
    GivesEnt 36 #[.pointer (some ⟨bk, 0, none⟩), .pointer (some ⟨ba, 0, none⟩)] (fun e => !meetAt k e.x e.m j) w := by
  intro W e hkw
  have c0 : W.cell? ⟨bk, 0, none⟩ = some (.int .i64 (k : Int)) := (Blk.kept hk hkw).cell 0
  have c1 : W.cell? ⟨ba, 0, none⟩ = some (.int .i64 (j : Int)) := (Blk.kept ha hkw).cell 0
  have l0 := (Blk.kept hk hkw).lt
  have l1 := (Blk.kept ha hkw).lt
  have hall := Lib.hid (sall_any k h j hj)
  show Calls Try.prog 36 #[ev e, .pointer (some ⟨bk, 0, none⟩), .pointer (some ⟨ba, 0, none⟩)] W (Ret (.bool (!meetAt k e.x e.m j)) W)
  clear hk ha hkw
  go_enter Try.func36, Try.ntmps36
  go_wp2_with fail
  refine region_ext _ (by first | exact Later.ext _ _ | exact Later.refl _) mixed (by kernel_rfl) ?_
  repeat (go_big_quiet_step ((first | (go_at_call 31; exact calls_in (hall.out _)) | (go_at_call 30; exact calls_in (wmeet_any _ _ _ _ _)))))
  refine wpQuiet_nil ?_
  rintro _ ⟨q, rfl⟩
  go_wp2_with fail
  go_ret
  exact Ret.of (rfl) (by simp (maxDischargeDepth := 99))
theorem part_no (k at_ : Int) (h : at_ < 0 ∨ (k < 0 ∨ 3 < k) ∨ ∃ n : Nat, k = (n : Int) ∧ n ≤ 3 ∧ ((2 ^ n : Nat) : Int) ≤ at_) (v : Value) (w : World) : Calls Try.prog 18 #[.int .i64 k, .int .i64 at_, v] w (RetEls 48 6 Ent.cells [] w) := by
  by_cases h1 : at_ < 0
  · clear h
    go_enter Try.func18, Try.ntmps18
    go_wp2_with fail
    refine region_ext _ (by first | exact Later.ext _ _ | exact Later.refl _) mixed (by kernel_rfl) ?_
    repeat (go_big_quiet_step (fail))
    refine wpQuiet_nil ?_
    rintro _ ⟨q, rfl⟩
    go_wp2_with fail
    go_ret
    exact RetEls.mk (Kept.refl w) (Own.nil _ _ (by simp (maxDischargeDepth := 99)) _ _)
  · rcases h with h | h | ⟨n, rfl, hn, h2⟩
    · exact absurd h h1
    · have h3 : decide (at_ < 0) = false := decide_eq_false h1
      go_enter Try.func18, Try.ntmps18
      go_wp2_with fail
      refine region_ext _ (by first | exact Later.ext _ _ | exact Later.refl _) mixed (by kernel_rfl) ?_
      repeat (go_big_quiet_step ((first | (go_at_call 12; exact calls_in (smany_no _ h _)))))
      refine wpQuiet_nil ?_
      rintro _ ⟨q, rfl⟩
      go_wp2_with fail
      go_ret
      exact RetEls.mk (Kept.refl w) (Own.nil _ _ (by simp (maxDischargeDepth := 99)) _ _)
    · have hm := Lib.hid (smany_yes n hn)
      have h3 : decide (at_ < 0) = false := decide_eq_false h1
      generalize ((2 ^ n : Nat) : Int) = N at *
      go_enter Try.func18, Try.ntmps18
      go_wp2_with fail
      refine region_ext _ (by first | exact Later.ext _ _ | exact Later.refl _) mixed (by kernel_rfl) ?_
      repeat (go_big_quiet_step ((first | (go_at_call 12; exact calls_in (hm.out _)))))
      refine wpQuiet_nil ?_
      rintro _ ⟨q, rfl⟩
      go_wp2_with fail
      go_ret
      exact RetEls.mk (Kept.refl w) (Own.nil _ _ (by simp (maxDischargeDepth := 99)) _ _)
set_option maxRecDepth 100000 in
theorem part_yes {l : List Ent} {v : Value} (k : Nat) (h : k ≤ 3) (j : Nat) (hj : j < 2 ^ k) (w : World) (hl : Els w v 6 Ent.cells l) (hn : l.length ≤ 1000) : Calls Try.prog 18 #[.int .i64 (k : Int), .int .i64 (j : Int), v] w (RetEls 48 6 Ent.cells (partL k j l) w) := by
  have HE := Lib.hid hl
  have hm := Lib.hid (smany_yes k h)
  have h1 : decide ((j : Int) < 0) = false := decide_eq_false (by omega)
  have HJ := Lib.hid hj
  have hp : (fun e : Ent => !(!meetAt k e.x e.m j)) = fun e => meetAt k e.x e.m j := by funext e; exact Bool.not_not _
  have HL := Lib.hid (show partL k j l = l.filter fun e => !(!meetAt k e.x e.m j) by unfold partL; rw [hp])
  obtain ⟨N, hN⟩ : ∃ N, ((2 ^ k : Nat) : Int) = N := ⟨_, rfl⟩
  have hjN : (j : Int) < N := by rw [← hN]; exact Int.ofNat_lt.2 hj
  rw [hN] at hm
  clear hl hj hN hp
  go_enter Try.func18, Try.ntmps18
  go_wp2_with fail
  refine region_ext _ (by first | exact Later.ext _ _ | exact Later.refl _) mixed (by kernel_rfl) ?_
  repeat (go_big_quiet_step ((first | (go_at_call 12; exact calls_in (hm.out _)))))
  refine wpQuiet_nil ?_
  rintro _ ⟨q, rfl⟩
  go_wp2_with fail
  refine named_call fun W hW => ?_
  have hkW : Kept w W := by rw [hW]; simp (maxDischargeDepth := 99)
  have bk : Blk W w.heap.size 3 #[.int .i64 (k : Int)] := by rw [hW]; exact Blk.ext (Blk.alloc (Blk.new _ _ _) _) _
  have ba : Blk W (w.heap.size + 1) 3 #[.int .i64 (j : Int)] := by rw [hW]; exact Blk.ext (Blk.new' _ _ _ (by simp)) _
  clear hW
  have HG := Lib.hid (part1_gives k h j HJ.out _ _ _ _ W bk ba)
  have HK := Lib.hid hkW
  clear bk ba hkW
  refine (cloneEnt_any W (HE.out.kept HK.out) (by omega)).mono ?_
  rintro e w1 hR
  obtain ⟨a, c, p, rfl, rfl, hlc, hown, hels⟩ := RetEls.out Ent.cells_len hR
  have HO := Lib.hid hown
  clear hown hels hR
  go_wp2_with fail
  refine (deleteFuncEnt_any _ _ _ W _ HO.out (by omega) (enters_of Try.func36 (by kernel_rfl) rfl) HG.out).mono ?_
  rintro e w1 ⟨v', rfl, ho⟩
  go_wp2_with fail
  go_ret
  exact RetEls.mk HK.out (by rw [HL.out]; exact ho)
end Go.Proofs.Ytlmadimnoknheaa
