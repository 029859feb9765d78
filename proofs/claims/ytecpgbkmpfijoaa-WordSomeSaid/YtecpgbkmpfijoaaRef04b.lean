/- The reference's address that a word matches, and what two words are merged to: the contracts over the program. -/
import Derived.Test.YtecpgbkmpfijoaaRef04
namespace Go.Proofs.Ytecpgbkmpfijoaa
open Go.RowKit Pg

theorem quo_two (r : Nat) : ((r : Int) / 2) = ((r / 2 : Nat) : Int) := by omega
set_option maxHeartbeats 2000000 in
set_option maxRecDepth 100000 in
theorem refwsome_any (x m : B) (n : Int) (w : World) : Calls Try.prog 25 #[wv x m, .int .i64 n] w (Ret (av (someB x m n)) w) := by
  have hcv := u64N_cast n
  have hr0 := u64N_lt n
  obtain ⟨r, hr⟩ : ∃ r, u64N n = r := ⟨_, rfl⟩
  have hS := Lib.hid (show someB x m n = (someAt x m r 128).1 by unfold someB; rw [hr])
  rw [hr] at hcv hr0
  clear hr
  go_enter Try.func25, Try.ntmps25
  go_wp2_with fail
  refine (bits_any x _).mono ?_
  rintro e w1 ⟨g0, rfl, hg0, hb0, p0, rfl⟩
  have hl0 := hb0.lt
  have HB0 := Lib.hid hb0
  clear hb0
  go_wp2_with fail
  refine (calls_in_bits (bits_any m _)).mono ?_
  rintro e w1 ⟨g1, rfl, hg1, hb1, p1, rfl, hk1⟩
  have hb0 := Blk.kept HB0.out hk1
  have hne : ¬ g0 = g1 := by omega
  clear hk1 HB0 hl0
  have hl0 := hb0.lt
  have hl1 := hb1.lt
  have HB0 := Lib.hid hb0
  have HB1 := Lib.hid hb1
  have hw0 : w.heap.size + 1 < g0 := by
    rcases Nat.lt_or_ge (w.heap.size + 1) g0 with h | h
    · exact h
    · simp only [World.size_alloc] at hg0; omega
  clear hb0 hb1 hg0 hg1
  go_wp2_with fail
  go_loopw [7, 8] (fun vr vk wr => ∃ (j : Nat) (f : Nat → Bool), j ≤ 128 ∧ vk = .int .i64 (127 - j) ∧ vr = .int .u64 ((someAt x m r j).2 : Int) ∧ (∀ i, i < 128 → bt m i = true ∨ 128 ≤ i + j → f i = bt (someAt x m r j).1 i) ∧ Kept w wr ∧ IsBits wr g0 4 f ∧ IsBits wr g1 4 (bt m) ∧ Blk wr (w.heap.size + 1) 23 #[.int .u64 0, .int .u64 0]) (fun _ k _ => (intOf k + 1).toNat)
  case atStart => exact ⟨0, bt x, by omega, rfl, by simp [someAt], fun i hi h => by rw [someAt_told x m r 0 (by omega) i hi (h.imp_right (by omega)), h.resolve_right (by omega)]; simp, by simp (maxDischargeDepth := 99), HB0.out, HB1.out, Blk.ext (Blk.new' _ _ _ (by simp)) _⟩
  case round =>
    clear HB0 HB1 hl0 hl1 hcv
    obtain ⟨j, f, hj, rfl, rfl, hf, hkw, hb0, hb1, hbr⟩ := hrel
    have HX := Lib.hid (And.intro hf (And.intro hkw (And.intro hb0 (And.intro hb1 hbr))))
    have hle : (someAt x m r j).2 < 18446744073709551616 := Nat.lt_of_le_of_lt (someAt_le x m r j) hr0
    by_cases hlt : j < 128
    · have c1 := hb1.cell (127 - j) (by omega)
      have hk : ((127 - j : Nat) : Int) = 127 - (j : Int) := by omega
      have i0 : (0 : Int) ≤ 127 - j := by omega
      have i1 : (127 : Int) - j < 128 := by omega
      have i2 : (127 - (j : Int)).toNat = 127 - j := by omega
      have l0 := hb0.lt
      have l1 := hb1.lt
      have f0 := Blk.frozen hb0
      have c0 := hb0.cell (127 - j) (by omega)
      have hst := Lib.hid (show someAt x m r (j + 1) = someStep m (127 - j) (someAt x m r j) from rfl)
      clear hf hkw hb0 hb1 hbr hk
      generalize hs : someAt x m r j = s at *
      obtain ⟨A, R⟩ := s
      simp only at *
      have hpar := Lib.hid (parity R)
      have hquo := Lib.hid (quo_two R)
      cases hb : bt m (127 - j)
      · have HB := Lib.hid (show someAt x m r (j + 1) = (setB A (127 - j) ((R : Int) % 2 == 1), R / 2) by rw [hst.out, hpar.out]; unfold someStep; rw [hb]; rfl)
        rw [hb] at c1
        have hbm := Lib.hid hb
        clear hb hst hs hlt
        go_wp2_with fail
        go_roundw
        case rel =>
          refine ⟨j + 1, upd f (127 - j) ((R : Int) % 2 == 1), by omega, by go_num, by rw [HB.out]; first | rfl | (rw [← hquo.out]), fun i hi h => ?_, Kept.setCell HX.out.2.1 _ _ _ (by omega) _, ?_, ?_, ?_⟩
          · rw [HB.out]
            show upd f (127 - j) _ i = bt (setB A (127 - j) _) i
            rw [bt_setB _ _ _ (by omega) i hi]
            by_cases he : i = 127 - j
            · rw [if_pos he, he, upd_same]
            · rw [if_neg he, upd_other _ _ _ _ he]
              exact HX.out.1 i hi (h.imp_right (by omega))
          · unfold IsBits; rw [← bitCells_set]; exact Blk.set_ HX.out.2.2.1 _ _
          · exact Blk.far HX.out.2.2.2.1 (fun h => hne h.symm) _
          · exact Blk.far HX.out.2.2.2.2 (by simp; omega) _
        case measure => simp [intOf]; omega
      · have HB := Lib.hid (show someAt x m r (j + 1) = (A, R) by rw [hst.out]; unfold someStep; rw [hb]; rfl)
        have hbm := Lib.hid hb
        rw [hb] at c1
        clear hb hst hs hlt
        go_wp2_with fail
        go_roundw
        case rel =>
          refine ⟨j + 1, f, by omega, by go_num, by rw [HB.out], fun i hi h => ?_, HX.out.2.1, HX.out.2.2.1, HX.out.2.2.2.1, HX.out.2.2.2.2⟩
          rw [HB.out]
          by_cases he : i = 127 - j
          · exact HX.out.1 i hi (.inl (he ▸ hbm.out))
          · exact HX.out.1 i hi (h.imp_right (by omega))
        case measure => simp [intOf]; omega
    · have hj128 : j = 128 := by omega
      subst hj128
      obtain ⟨r0, r1, rl⟩ := Blk.two hbr
      have rf := Blk.frozen hbr
      have l0 := hb0.lt
      clear hlt hj hf hkw hb0 hb1 hbr hle
      go_wp2_with (first | (go_at_call 38; refine (words_any (someB x m n) g0 128 _ l0 (fun i hi => by rw [HX.out.2.2.1.cell i hi, HX.out.1 i hi (.inr (by omega)), hS.out])).mono ?_; rintro e w1 ⟨rfl, q1, rfl⟩))
      refine bodyPost_ret (v := av (someB x m n)) ?_ rfl (Ret.mk (by simp (maxDischargeDepth := 99) [HX.out.2.1]))
      simp [results, Try.results25, go_sem, r0, r1, rl]
end Go.Proofs.Ytecpgbkmpfijoaa
