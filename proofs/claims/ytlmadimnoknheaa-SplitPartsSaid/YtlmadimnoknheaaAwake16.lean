/- The statements of layer 16: what each asks of one bit besides; the banks of any index. -/
import Derived.Test.YtlmadimnoknheaaSplit3
import Derived.Test.YtlmadimnoknheaaAwake4
namespace Pg
open Go
def bankZ (k : Int) (x m : B) : List Nat := if 0 ≤ k ∧ k ≤ 3 then banksL k.toNat x m else []
theorem bankZ_nat (k : Nat) (h : k ≤ 3) (x m : B) : bankZ k x m = banksL k x m := by unfold bankZ; rw [if_pos ⟨by omega, by omega⟩]; rfl
theorem bankZ_no (k : Int) (h : k < 0 ∨ 3 < k) (x m : B) : bankZ k x m = [] := by unfold bankZ; rw [if_neg (by omega)]
theorem bankZ_len (k : Int) (x m : B) : (bankZ k x m).length ≤ 8 := by
  unfold bankZ
  split
  · unfold banksL
    refine Nat.le_trans (List.length_filter_le _ _) ?_
    rw [List.length_range]
    exact pow_small (by omega)
  · simp
section
variable {α : Type}
theorem Els.of_blk {w : World} {g : Nat} {t : TypeId} {k : Nat} {enc : α → List Value} (hk : ∀ x, (enc x).length = k) (l : List α) (h : Blk w g t (l.flatMap enc).toArray) (c : Nat) (hc : l.length ≤ c) : Els w (.slice (some ⟨g, 0, none⟩) l.length c) k enc l :=
  ⟨_, c, rfl, hc, fun _ => ⟨g, 0, rfl, h.lt, fun i hi' j hj => by
    rw [Nat.zero_add, h.cell]
    rw [List.getElem?_toArray]
    exact flat_get hk l i hi' j hj⟩⟩
end
end Pg
namespace Go.Proofs.Ytlmadimnoknheaa
open Go.RowKit Pg

theorem sbanks_any (k : Int) (x m : B) (w : World) : Calls Try.prog 9 #[.int .i64 k, wv x m] w (RetEls 3 1 encN (bankZ k x m) w) := by
  by_cases h : k < 0 ∨ 3 < k
  · rw [bankZ_no k h]; exact sbanks_no k h x m w
  · obtain ⟨n, rfl⟩ := Int.eq_ofNat_of_zero_le (show 0 ≤ k by omega)
    rw [bankZ_nat n (by omega)]
    exact sbanks_yes n (by omega) x m w
theorem refsbanks_any (k : Int) (x m : B) (w : World) : Calls Try.prog 10 #[.int .i64 k, wv x m] w (RetEls 3 1 encN (bankZ k x m) w) := by
  by_cases h : k < 0 ∨ 3 < k
  · rw [bankZ_no k h]; exact refsbanks_no k h x m w
  · obtain ⟨n, rfl⟩ := Int.eq_ofNat_of_zero_le (show 0 ≤ k by omega)
    rw [bankZ_nat n (by omega)]
    exact refsbanks_yes n (by omega) x m w
def e16a : Ent := ⟨0#128, 0#128, 0, 1⟩
def e16b : Ent := ⟨wA, maskB 8, 8, 2⟩
def t16 : B := BitVec.ofNat 128 (2 ^ 127)
theorem t16_words : hi t16 = 9223372036854775808 ∧ lo t16 = 0 := by decide +kernel
theorem awake16_of1 (w : World) : Calls Try.prog 33 #[.agg #[.int .u64 0, .int .u64 0, .int .i64 0], .int .i64 1] w (Ret (ev e16a) w) := by
  have h := eof_any 0#128 0 1 w
  rwa [show ofE 0#128 0 1 = e16a by unfold ofE e16a; rw [show (0#128 &&& maskB (near 0)) = 0#128 by decide +kernel, show maskB (near 0) = 0#128 by decide +kernel, show ((near 0 : Nat) : Int) = 0 by decide +kernel]] at h
theorem awake16_of2 (w : World) : Calls Try.prog 33 #[pv wA 8, .int .i64 2] w (Ret (ev e16b) w) := by
  have h := eof_any wA 8 2 w
  rwa [show ofE wA 8 2 = e16b by unfold ofE e16b; rw [show (wA &&& maskB (near 8)) = wA by decide +kernel, show maskB (near 8) = maskB 8 by decide +kernel, show ((near 8 : Nat) : Int) = 8 by decide +kernel]] at h
theorem awake16_b1 (w : World) : Calls Try.prog 9 #[.int .i64 1, wv e16a.x e16a.m] w (RetEls 3 1 encN [0, 1] w) := by
  have h := sbanks_yes 1 (by omega) 0#128 0#128 w
  rwa [show banksL 1 0#128 0#128 = [0, 1] by decide +kernel] at h
theorem awake16_b2 (w : World) : Calls Try.prog 9 #[.int .i64 1, wv e16b.x e16b.m] w (RetEls 3 1 encN [0] w) := by
  have h := sbanks_yes 1 (by omega) wA (maskB 8) w
  rwa [show banksL 1 wA (maskB 8) = [0] by decide +kernel] at h
theorem awake16_part {v : Value} (w : World) (hl : Els w v 6 Ent.cells [e16b, e16a]) : Calls Try.prog 18 #[.int .i64 1, .int .i64 1, v] w (RetEls 48 6 Ent.cells [e16a] w) := by
  have h := part_yes 1 (by omega) 1 (by decide) w hl (by simp)
  have h1 : meetAt 1 e16b.x e16b.m 1 = false := by decide +kernel
  have h2 : meetAt 1 e16a.x e16a.m 1 = true := by decide +kernel
  rwa [show partL 1 1 [e16b, e16a] = [e16a] by unfold partL; simp [h1, h2]] at h
theorem awake16_top (w : World) : Calls Try.prog 14 #[.int .i64 1, .agg #[.int .u64 9223372036854775808, .int .u64 0]] w (Ret (.int .i64 1) w) := by
  have h := sof_yes 1 (by omega) t16 w
  rw [show topN t16 1 = 1 by decide +kernel] at h
  unfold av at h
  rwa [t16_words.1, t16_words.2] at h
set_option maxHeartbeats 1000000 in
set_option maxRecDepth 100000 in
theorem awake16_any (w : World) : Calls Try.prog 16 #[] w (Ret (.bool true) w) := by
  go_enter Try.func16, Try.ntmps16
  go_wp2_with (first | (go_at_call 27; first | ((refine (calls_in (awake4_mk3 _)).mono ?_); rintro e w1 ⟨rfl, q1, rfl⟩) | ((refine (awake4_mk3 _).mono ?_); rintro e w1 ⟨rfl, q1, rfl⟩)) | (go_at_call 33; first | ((with_reducible refine (calls_in (awake16_of1 _)).mono ?_); rintro e w1 ⟨rfl, q1, rfl⟩) | ((with_reducible refine (awake16_of1 _).mono ?_); rintro e w1 ⟨rfl, q1, rfl⟩) | ((with_reducible refine (calls_in (awake16_of2 _)).mono ?_); rintro e w1 ⟨rfl, q1, rfl⟩) | ((with_reducible refine (awake16_of2 _).mono ?_); rintro e w1 ⟨rfl, q1, rfl⟩)))
  refine named_call fun W hW => ?_
  have hkW : Kept w W := by rw [hW]; simp (maxDischargeDepth := 99)
  have ba : Blk W (ext w q1).heap.size 48 #[.int .u64 (hi e16a.x), .int .u64 (lo e16a.x), .int .u64 (hi e16a.m), .int .u64 (lo e16a.m), .int .i64 e16a.len, .int .i64 e16a.act] := by
    rw [hW]; exact Blk.alloc (Blk.new _ _ _) _
  have bb : Blk W ((ext w q1).heap.size + 1) 48 #[.int .u64 (hi e16b.x), .int .u64 (lo e16b.x), .int .u64 (hi e16b.m), .int .u64 (lo e16b.m), .int .i64 e16b.len, .int .i64 e16b.act] := by
    rw [hW]; exact Blk.new' _ _ _ (by simp)
  clear hW
  generalize (ext w q1).heap.size = g at *
  have a0 := ba.cell 0
  have a1 := ba.cell 1
  have a2 := ba.cell 2
  have a3 := ba.cell 3
  have a4 := ba.cell 4
  have a5 := ba.cell 5
  have al := ba.lt
  have b0 := bb.cell 0
  have b1 := bb.cell 1
  have b2 := bb.cell 2
  have b3 := bb.cell 3
  have b4 := bb.cell 4
  have b5 := bb.cell 5
  have bl := bb.lt
  simp only [List.getElem?_toArray, List.getElem?_cons_zero, List.getElem?_cons_succ] at a0 a1 a2 a3 a4 a5 b0 b1 b2 b3 b4 b5
  clear ba bb
  have HK := Lib.hid hkW
  clear hkW
  refine (awake16_b1 _).mono ?_
  rintro e w1 hR
  obtain ⟨x1, y1, p1, rfl, rfl, hlc1, hown1, hels1⟩ := RetEls.out encN_len hR
  obtain ⟨s1, o1, rfl, hs1, hcell1⟩ := hels1.at_ 1 (by simp)
  have d0 : (ext W p1).cell? ⟨s1, o1 + 1, none⟩ = some (.int .i64 1) := by have := hcell1 0 (by omega); simpa [encN] using this
  clear hown1 hels1 hcell1 hR hlc1
  go_wp2_with fail
  refine (awake16_b2 _).mono ?_
  rintro e w1 hR
  obtain ⟨x2, y2, p2, rfl, hw2, hlc2, hown2, hels2⟩ := RetEls.out encN_len hR
  obtain ⟨p3, hp3⟩ := ext_ext W p1 p2
  rw [hp3] at hw2
  subst hw2
  clear hown2 hels2 hR hlc2 hp3 d0 hs1
  go_wp2_with fail
  refine (awake16_part _ (Els.of_blk Ent.cells_len [e16b, e16a] (Blk.new _ _ _) 2 (by simp))).mono ?_
  rintro e w1 hR
  obtain ⟨x4, y4, p4, rfl, rfl, hlc4, hown4, hels4⟩ := RetEls.out Ent.cells_len hR
  clear hown4 hels4 hR hlc4
  go_wp2_with (first | (go_at_call 14; first | ((refine (calls_in (awake16_top _)).mono ?_); rintro e w1 ⟨rfl, q1, rfl⟩) | ((refine (awake16_top _).mono ?_); rintro e w1 ⟨rfl, q1, rfl⟩)) | (go_at_call 12; first | ((refine (calls_in (smany_yes 3 (by omega) _)).mono ?_); rintro e w1 ⟨rfl, q1, rfl⟩) | ((refine (smany_yes 3 (by omega) _).mono ?_); rintro e w1 ⟨rfl, q1, rfl⟩)) | (go_at_call 13; first | ((refine (calls_in (sright_yes 3 (by omega) _)).mono ?_); rintro e w1 ⟨rfl, q1, rfl⟩) | ((refine (sright_yes 3 (by omega) _).mono ?_); rintro e w1 ⟨rfl, q1, rfl⟩)))
  go_ret
  exact Ret.of (rfl) (by simp (maxDischargeDepth := 99) [HK.out])
end Go.Proofs.Ytlmadimnoknheaa
