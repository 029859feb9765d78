/- An address that a word matches: the contract of word.Some. -/
import Derived.Test.YtlmadimnoknheaaWord
namespace Go.Proofs.Ytlmadimnoknheaa
open Go.RowKit Pg

theorem u64N_lt (n : Int) : u64N n < 18446744073709551616 := by
  unfold u64N
  rw [IntKind.wrap_u64]
  omega
theorem u64N_cast (n : Int) : IntKind.u64.wrap n = (u64N n : Int) := by
  unfold u64N
  rw [IntKind.wrap_u64]
  omega
theorem and_one (r : Nat) (h : r < 18446744073709551616) : bits .and .u64 (r : Int) 1 = ((r % 2 : Nat) : Int) := by
  rw [show (1 : Int) = ((1 : Nat) : Int) from rfl, u64_and_nat r 1 h (by omega), Nat.and_one_is_mod]
theorem parity (r : Nat) : ((r : Int) % 2 == 1) = (r % 2 == 1) := by
  have h1 : (r : Int) % 2 = ((r % 2 : Nat) : Int) := by omega
  rw [h1]
  have : r % 2 = 0 ∨ r % 2 = 1 := by omega
  rcases this with h | h <;> rw [h] <;> rfl
@[go_sem] theorem field_word (x m : B) (w : World) : (Instr.field 26 (wv x m) 0).run Try.prog w = .ok (av x) w := by kernel_rfl
set_option maxHeartbeats 2000000 in
set_option maxRecDepth 100000 in
theorem wsome_any (x m : B) (n : Int) (w : World) : Calls Try.prog 29 #[wv x m, .int .i64 n] w (Ret (av (someB x m n)) w) := by
  have hcv := u64N_cast n
  have hr0 := u64N_lt n
  obtain ⟨r, hr⟩ : ∃ r, u64N n = r := ⟨_, rfl⟩
  have hS := Lib.hid (show someB x m n = (someAt x m r 128).1 by unfold someB; rw [hr])
  rw [hr] at hcv hr0
  clear hr
  go_enter Try.func29, Try.ntmps29
  go_wp2_with (first | (go_at_call 45; first | ((refine (calls_in (clean_any _ _ _)).mono ?_); rintro e w1 ⟨rfl, q1, rfl⟩) | ((refine (clean_any _ _ _).mono ?_); rintro e w1 ⟨rfl, q1, rfl⟩)))
  refine named fun w2 hw2 => ?_
  have hgw : w.heap.size + 1 + 1 ≤ (ext ((w.alloc (Obj.cells #[.int .u64 (hi x), .int .u64 (lo x), .int .u64 (hi m), .int .u64 (lo m)] 26)).alloc (Obj.cells #[.int .u64 0, .int .u64 0] 24)) q1).heap.size := by
    have := ext_size ((w.alloc (Obj.cells #[.int .u64 (hi x), .int .u64 (lo x), .int .u64 (hi m), .int .u64 (lo m)] 26)).alloc (Obj.cells #[.int .u64 0, .int .u64 0] 24)) q1
    rw [World.size_alloc, World.size_alloc] at this; exact this
  have hkw : Kept w w2 := by rw [hw2]; simp (maxDischargeDepth := 99)
  have hbx : Blk w2 w.heap.size 26 #[.int .u64 (hi x), .int .u64 (lo x), .int .u64 (hi m), .int .u64 (lo m)] := by
    rw [hw2]; exact Blk.alloc (Blk.ext (Blk.alloc (Blk.new _ _ _) _) _) _
  have hbr : Blk w2 (w.heap.size + 1) 24 #[.int .u64 0, .int .u64 0] := by
    rw [hw2]; exact Blk.alloc (Blk.ext (Blk.new' _ _ _ (by simp)) _) _
  have hba : Blk w2 (ext ((w.alloc (Obj.cells #[.int .u64 (hi x), .int .u64 (lo x), .int .u64 (hi m), .int .u64 (lo m)] 26)).alloc (Obj.cells #[.int .u64 0, .int .u64 0] 24)) q1).heap.size 24 #[.int .u64 (hi (x &&& m)), .int .u64 (lo (x &&& m))] := by
    rw [hw2]; exact Blk.new _ _ _
  clear hw2
  generalize (ext ((w.alloc (Obj.cells #[.int .u64 (hi x), .int .u64 (lo x), .int .u64 (hi m), .int .u64 (lo m)] 26)).alloc (Obj.cells #[.int .u64 0, .int .u64 0] 24)) q1).heap.size = g at *
  have hne1 : ¬ w.heap.size = g := by omega
  have hne2 : ¬ w.heap.size + 1 = g := by omega
  have hwg : w.heap.size ≤ g := by omega
  clear hgw
  have HB := Lib.hid (And.intro hkw (And.intro hbx (And.intro hbr hba)))
  clear hkw hbx hbr hba
  go_loopw [6, 7] (fun vr vk wr => ∃ j : Nat, j ≤ 128 ∧ vk = .int .i64 (127 - j) ∧ vr = .int .u64 ((someAt x m r j).2 : Int) ∧ Kept w wr ∧ Blk wr w.heap.size 26 #[.int .u64 (hi x), .int .u64 (lo x), .int .u64 (hi m), .int .u64 (lo m)] ∧ Blk wr (w.heap.size + 1) 24 #[.int .u64 0, .int .u64 0] ∧ Blk wr g 24 #[.int .u64 (hi (someAt x m r j).1), .int .u64 (lo (someAt x m r j).1)]) (fun _ k _ => (intOf k + 1).toNat)
  case atStart => exact ⟨0, by omega, rfl, by simp [someAt], HB.out.1, HB.out.2.1, HB.out.2.2.1, HB.out.2.2.2⟩
  case round =>
    clear HB hcv
    obtain ⟨j, hj, rfl, rfl, hkw, hbx, hbr, hba⟩ := hrel
    have HX := Lib.hid (And.intro hkw (And.intro hbx (And.intro hbr hba)))
    have hle : (someAt x m r j).2 < 18446744073709551616 := Nat.lt_of_le_of_lt (someAt_le x m r j) hr0
    by_cases hlt : j < 128
    · obtain ⟨b0, b1, b2, b3, bl⟩ := Blk.four hbx
      obtain ⟨a0, a1, al⟩ := Blk.two hba
      have af := Blk.frozen hba
      have i0 : (0 : Int) ≤ 127 - j := by omega
      have hk : ((127 - j : Nat) : Int) = 127 - (j : Int) := by omega
      have hgb := Lib.hid (fun w => getbit_in m (127 - j) (by omega) w)
      rw [hk] at hgb
      have hst : someAt x m r (j + 1) = someStep m (127 - j) (someAt x m r j) := rfl
      have hone := and_one (someAt x m r j).2 hle
      have hbeq := Lib.hid (parity (someAt x m r j).2)
      have hwi := Lib.hid (fun w => with_in (someAt x m r j).1 (127 - j) (by omega) (((someAt x m r j).2 : Int) % 2 == 1) w)
      rw [hk] at hwi
      have hst := Lib.hid hst
      clear hkw hbx hbr hba hlt
      generalize hs : someAt x m r j = s at *
      obtain ⟨A, R⟩ := s
      simp only at *
      cases hb : bt m (127 - j)
      · have HB := Lib.hid (show someAt x m r (j + 1) = (setB A (127 - j) ((R : Int) % 2 == 1), R / 2) by rw [hst.out, hbeq.out]; unfold someStep; rw [hb]; rfl)
        rw [hb] at hgb
        clear hb hst hs hbeq
        go_wp2_with (first | (go_at_call 22; first | ((with_reducible refine (calls_in (hgb.out _)).mono ?_); rintro e w1 ⟨rfl, q1, rfl⟩) | ((with_reducible refine (hgb.out _).mono ?_); rintro e w1 ⟨rfl, q1, rfl⟩) | ((with_reducible refine (calls_in (hgb.out _)).mono ?_); rintro e w1 ⟨rfl, q1, rfl⟩) | ((with_reducible refine (hgb.out _).mono ?_); rintro e w1 ⟨rfl, q1, rfl⟩)) | (go_at_call 47; first | ((with_reducible refine (calls_in (hwi.out _)).mono ?_); rintro e w1 ⟨rfl, q1, rfl⟩) | ((with_reducible refine (hwi.out _).mono ?_); rintro e w1 ⟨rfl, q1, rfl⟩) | ((with_reducible refine (calls_in (hwi.out _)).mono ?_); rintro e w1 ⟨rfl, q1, rfl⟩) | ((with_reducible refine (hwi.out _).mono ?_); rintro e w1 ⟨rfl, q1, rfl⟩)))
        go_roundw
        case rel =>
          refine ⟨j + 1, by omega, by go_num, by rw [HB]; go_num, ?_, ?_, ?_, ?_⟩
          · simp (maxDischargeDepth := 99) [HX.out.1, hwg]
          · exact Blk.far (Blk.far (Blk.ext HX.out.2.1 _) hne1 _) hne1 _
          · exact Blk.far (Blk.far (Blk.ext HX.out.2.2.1 _) hne2 _) hne2 _
          · rw [HB]; exact Blk.set_ (Blk.set_ (Blk.ext HX.out.2.2.2 _) 0 _) 1 _
        case measure => simp [intOf]; omega
      · have HB := Lib.hid (show someAt x m r (j + 1) = (A, R) by rw [hst.out]; unfold someStep; rw [hb]; rfl)
        rw [hb] at hgb
        clear hb hst hs
        go_wp2_with (first | (go_at_call 22; first | ((refine (calls_in (hgb.out _)).mono ?_); rintro e w1 ⟨rfl, q1, rfl⟩) | ((refine (hgb.out _).mono ?_); rintro e w1 ⟨rfl, q1, rfl⟩)))
        go_roundw
        case rel => exact ⟨j + 1, by omega, by go_num, by rw [HB], Kept.ext HX.out.1 _, Blk.ext HX.out.2.1 _, Blk.ext HX.out.2.2.1 _, by rw [HB]; exact Blk.ext HX.out.2.2.2 _⟩
        case measure => simp [intOf]; omega
    · have hj128 : j = 128 := by omega
      subst hj128
      obtain ⟨r0, r1, rl⟩ := Blk.two hbr
      obtain ⟨a0, a1, al⟩ := Blk.two hba
      have rf := Blk.frozen hbr
      rw [← hS.out] at a0 a1
      clear hlt hj hbx hbr hba hkw hle
      go_wp2_with fail
      refine bodyPost_ret (v := av (someB x m n)) ?_ rfl (Ret.mk (by simp (maxDischargeDepth := 99) [HX.out.1]))
      simp [results, Try.results29, go_sem, r0, r1]
end Go.Proofs.Ytlmadimnoknheaa
