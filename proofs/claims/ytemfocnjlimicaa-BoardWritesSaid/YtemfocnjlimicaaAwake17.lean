/- The statements of layer 17: what each asks of two banks besides. -/
import Derived.Test.YtemfocnjlimicaaBoard10
namespace Go.Proofs.Ytemfocnjlimicaa
open Go.RowKit Pg

theorem kept_17 (w : World) (p : Regrown) : Kept w (ext w p) := below_ext w p
def e17 : Ent := ⟨0#128, 0#128, 0, 4⟩
def s17 : Slot := ⟨true, e17⟩
def a17 : B := BitVec.ofNat 128 (2 ^ 127)
theorem awake17_of (w : World) : Calls Try.prog 31 #[.agg #[.int .u64 0, .int .u64 0, .int .i64 0], .int .i64 4] w (Ret (ev e17) w) := by
  have h := eof_any 0#128 0 4 w
  rwa [show ofE 0#128 0 4 = e17 by unfold ofE e17; rw [show (0#128 &&& maskB (near 0)) = 0#128 by decide +kernel, show maskB (near 0) = 0#128 by decide +kernel, show ((near 0 : Nat) : Int) = 0 by decide +kernel]] at h
theorem a17_words : hi a17 = 9223372036854775808 ∧ lo a17 = 0 := by decide +kernel
theorem put17 : putW [z0, z0] ⟨1, s17⟩ = [z0, s17] := by
  have : mayW ⟨1, s17⟩ 2 = true := by decide +kernel
  unfold putW; rw [show ((([z0, z0] : List Slot).length : Nat) : Int) = 2 from rfl, this]; rfl
theorem may17 : mayW ⟨1, s17⟩ (2 : Nat) = true := by decide +kernel
theorem do17 : doE ⟨1, s17⟩ 2 = 0 := by decide +kernel
theorem idx17 : idxI (matchS a17) [z0, s17] = 1 := by decide +kernel
theorem tell17a : tellS [z0, s17] a17 = 4 := by decide +kernel
theorem tell17b : tellS [z0, z0] 0#128 = 0 := by decide +kernel
theorem top17a : topN a17 1 = 1 := by decide +kernel
theorem top17b : topN 0#128 1 = 0 := by decide +kernel
theorem valid17 (g0 r0 g1 r1 : Nat) : sumB validB [⟨g0, r0, [z0, z0], 0⟩, ⟨g1, r1, [z0, s17], 1⟩] = 1 := by
  show ((entsS [z0, z0]).length : Int) + (((entsS [z0, s17]).length : Int) + 0) = 1
  rw [show (entsS [z0, z0]).length = 0 by decide +kernel, show (entsS [z0, s17]).length = 1 by decide +kernel]; rfl
abbrev bs17 (g0 r0 g1 r1 : Nat) : List Bk := [⟨g0, r0, [z0, z0], 0⟩, ⟨g1, r1, [z0, s17], 1⟩]
theorem awake17_new (w : World) : Calls Try.prog 15 #[.int .i64 1, .int .i64 2] w (fun e w2 => ∃ gb gp cap g0 r0 g1 r1, e = .returned (.tuple #[.pointer (some ⟨gb, 0, none⟩), .int .i64 0]) ∧ Kept w w2 ∧ BoardAt w w2 gb gp (1 : Nat) 2 cap [⟨g0, r0, [z0, z0], 0⟩, ⟨g1, r1, [z0, z0], 0⟩]) :=
  (bonew_yes 1 (by omega) 2 (by omega) (by omega) w).mono fun e w2 ⟨gb, gp, cap, bs, he, hk, hb, hl, hn⟩ => by
    match bs, hl with
    | [⟨g0, r0, l0, c0⟩, ⟨g1, r1, l1, c1⟩], _ =>
      obtain ⟨h1, h2⟩ := hn ⟨g0, r0, l0, c0⟩ (by simp)
      obtain ⟨h3, h4⟩ := hn ⟨g1, r1, l1, c1⟩ (by simp)
      dsimp only at h1 h2 h3 h4
      subst h1 h2 h3 h4
      exact ⟨gb, gp, cap, g0, r0, g1, r1, he, hk, hb⟩
theorem awake17_do {W0 w : World} {gb gp cap g0 r0 g1 r1 : Nat} (h : BoardAt W0 w gb gp (1 : Nat) 2 cap [⟨g0, r0, [z0, z0], 0⟩, ⟨g1, r1, [z0, z0], 0⟩]) :
    Calls Try.prog 17 #[.pointer (some ⟨gb, 0, none⟩), mvv ⟨1, ⟨1, ⟨true, e17⟩⟩⟩] w (fun e w2 => e = .returned (.int .i64 0) ∧ BoardAt W0 w2 gb gp (1 : Nat) 2 cap (bs17 g0 r0 g1 r1)) :=
  (bodo_yes h (by simp) 1 (by simp) (by simp) (by simp) ⟨1, s17⟩).mono fun e w2 ⟨he, _, hb⟩ => by
    rw [do17] at he
    refine ⟨he, ?_⟩
    have e1 : ([⟨g0, r0, [z0, z0], 0⟩, ⟨g1, r1, [z0, z0], 0⟩] : List Bk)[1] = ⟨g1, r1, [z0, z0], 0⟩ := rfl
    have hm : mayW ⟨1, s17⟩ ((2 : Nat) : Int) = true := may17
    rw [e1, put17, if_pos hm] at hb
    exact hb
theorem awake17_search {W0 w : World} {gb gp cap g0 r0 g1 r1 : Nat} (h : BoardAt W0 w gb gp (1 : Nat) 2 cap (bs17 g0 r0 g1 r1)) : Calls Try.prog 11 #[.pointer (some ⟨gb, 0, none⟩), .agg #[.int .u64 9223372036854775808, .int .u64 0]] w (Ret (.tuple #[.int .i64 1, .int .i64 1, .bool true]) w) := by
  have := bosearch_any h (by omega) (by simp) a17 1 top17a (by simp) 1 idx17
  obtain ⟨e0, e1⟩ := a17_words
  unfold av at this
  rw [e0, e1] at this
  exact this
theorem awake17_tell1 {W0 w : World} {gb gp cap g0 r0 g1 r1 : Nat} (h : BoardAt W0 w gb gp (1 : Nat) 2 cap (bs17 g0 r0 g1 r1)) : Calls Try.prog 13 #[.pointer (some ⟨gb, 0, none⟩), .agg #[.int .u64 9223372036854775808, .int .u64 0]] w (Ret (.int .i64 4) w) := by
  have := botell_any h (by omega) (by simp) a17 1 top17a (by simp)
  rw [show (bs17 g0 r0 g1 r1)[1].l = [z0, s17] from rfl, tell17a] at this
  obtain ⟨e0, e1⟩ := a17_words
  unfold av at this
  rw [e0, e1] at this
  exact this
theorem awake17_tell2 {W0 w : World} {gb gp cap g0 r0 g1 r1 : Nat} (h : BoardAt W0 w gb gp (1 : Nat) 2 cap (bs17 g0 r0 g1 r1)) : Calls Try.prog 13 #[.pointer (some ⟨gb, 0, none⟩), .agg #[.int .u64 0, .int .u64 0]] w (Ret (.int .i64 0) w) := by
  have := botell_any h (by omega) (by simp) 0#128 0 top17b (by simp)
  rw [show (bs17 g0 r0 g1 r1)[0].l = [z0, z0] from rfl, tell17b] at this
  unfold av at this
  rw [show hi 0#128 = 0 by decide +kernel, show lo 0#128 = 0 by decide +kernel] at this
  exact this
theorem awake17_valid {W0 w : World} {gb gp cap g0 r0 g1 r1 : Nat} (h : BoardAt W0 w gb gp (1 : Nat) 2 cap (bs17 g0 r0 g1 r1)) : Calls Try.prog 23 #[.pointer (some ⟨gb, 0, none⟩)] w (Ret (.int .i64 1) w) := by
  have := bovalid_any h (by simp)
  rwa [valid17] at this
theorem awake17_writes {W0 w : World} {gb gp cap g0 r0 g1 r1 : Nat} (h : BoardAt W0 w gb gp (1 : Nat) 2 cap (bs17 g0 r0 g1 r1)) : Calls Try.prog 21 #[.pointer (some ⟨gb, 0, none⟩)] w (Ret (.int .i64 1) w) := by
  have := bowrites_any h (by simp) (by simp)
  exact this
set_option maxHeartbeats 1000000 in
set_option maxRecDepth 100000 in
theorem awake17_ok (w : World) : Calls Try.prog 8 #[] w (Ret (.bool true) w) := by
  go_enter Try.func8, Try.ntmps8
  go_wp2_with fail
  refine (awake17_new _).mono ?_
  rintro e w1 ⟨gb, gp, cap, g0, r0, g1, r1, rfl, hk1, hb1⟩
  have HB1 := Lib.hid hb1
  clear hk1 hb1
  go_wp2_with (first | (go_at_call 31; first | ((refine (calls_in (awake17_of _)).mono ?_); rintro e w1 ⟨rfl, q1, rfl⟩) | ((refine (awake17_of _).mono ?_); rintro e w1 ⟨rfl, q1, rfl⟩)))
  refine (awake17_do (HB1.out.kept (by simp (maxDischargeDepth := 99)))).mono ?_
  rintro e w2 ⟨rfl, hb2⟩
  have HB2 := Lib.hid hb2
  have HK2 := Lib.hid hb2.banks.kept
  clear hb2 HB1
  go_wp2_with fail
  refine (awake17_search HB2.out).mono ?_
  rintro e w1 ⟨rfl, q3, rfl⟩
  go_wp2_with (first | (go_at_call 13; first | ((with_reducible refine (calls_in (awake17_tell1 (HB2.out.kept (kept_17 _ _)))).mono ?_); rintro e w1 ⟨rfl, q1, rfl⟩) | ((with_reducible refine (calls_in (awake17_tell2 (HB2.out.kept (kept_17 _ _)))).mono ?_); rintro e w1 ⟨rfl, q1, rfl⟩)) | (go_at_call 23; refine (calls_in (awake17_valid (HB2.out.kept (kept_17 _ _)))).mono ?_; rintro e w1 ⟨rfl, q1, rfl⟩) | (go_at_call 21; refine (calls_in (awake17_writes (HB2.out.kept (kept_17 _ _)))).mono ?_; rintro e w1 ⟨rfl, q1, rfl⟩))
  go_ret
  exact Ret.of (rfl) (by simp (maxDischargeDepth := 99) [HK2.out])
end Go.Proofs.Ytemfocnjlimicaa
