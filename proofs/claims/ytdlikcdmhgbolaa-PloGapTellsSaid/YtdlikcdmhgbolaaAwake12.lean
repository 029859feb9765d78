/- The statements of layer 12: what each asks of four slots besides. -/
import Derived.Test.YtdlikcdmhgbolaaPlo6
import Derived.Test.YtdlikcdmhgbolaaLaw12
namespace Pg
open Go Go.RowKit
theorem RetWE.out2 {e : TypeId} {l : List Wr} {er : Int} {w w' : World} {en : Ending} (h : RetWE e l er w en w') : ∃ a c, en = .returned (.tuple #[.slice a l.length c, .int .i64 er]) ∧ l.length ≤ c ∧ Own w w' e 8 (.slice a l.length c) l.length (l.flatMap Wr.cells) ∧ Els w' (.slice a l.length c) 8 Wr.cells l := by
  obtain ⟨v, he, ho⟩ := h
  obtain ⟨a, c, h1, h2, h3, h4⟩ := RetEls.out2 Wr.cells_len (show RetEls e 8 Wr.cells l w (.returned v) w' from ⟨v, rfl, ho⟩)
  injection h1 with h1
  subst h1
  exact ⟨a, c, he, h2, h3, h4⟩
def z12 : Slot := ⟨false, ⟨0#128, 0#128, 0, 0⟩⟩
def l12 : List Slot := [s16, s08, s08, z12]
theorem ins12 : insW l12 s16.e = ([⟨3, s08⟩, ⟨1, s16⟩], 0) := by
  have h0 : rightE s16.e = true := by decide +kernel
  have h1 : keptS l12 = true := by decide +kernel
  have h2 : fromS s16.e.len l12 = 0 := by decide +kernel
  have h3 : toS s16.e.len l12 = 1 := by decide +kernel
  rw [insW_ok h0 h1, h2, h3]
  have h4 : firstE l12 (1 - 0) 0 = none := by decide +kernel
  have h5 : firstE l12 (l12.length - 1) 1 = some 3 := by decide +kernel
  have h6 : lastE l12 0 = none := by decide +kernel
  unfold insR2
  rw [h4, h5, h6]
  have h7 : downK l12 (lenAt l12 (3 - 1)) 1 (3 - 1) = 1 := by decide +kernel
  have h8 : slotAt l12 1 = s08 := rfl
  show (shiftD l12 1 s16.e 3 3, (0 : Int)) = _
  unfold shiftD
  rw [if_neg (by omega), h7, h8]
  unfold shiftD
  rw [if_pos (by omega)]
  rfl
theorem kept12 : keptS l12 = true := by decide +kernel
theorem lens12 : (lensN l12 : Int) = 2 := by decide +kernel
end Pg
namespace Go.Proofs.Ytdlikcdmhgbolaa
open Go.RowKit Pg

@[go_sem] theorem field_slot (s : Slot) (w : World) : (Instr.field 58 (slv s) 1).run Try.prog w = .ok (ev s.e) w := by kernel_rfl
theorem awake12_sl16 (w : World) : Calls Try.prog 26 #[.int .i64 16] w (Ret (.agg #[.bool s16.v, .int .u64 (hi s16.e.x), .int .u64 (lo s16.e.x), .int .u64 (hi s16.e.m), .int .u64 (lo s16.e.m), .int .i64 s16.e.len, .int .i64 s16.e.act]) w) := awake12_slot16 w
theorem awake12_sl08 (w : World) : Calls Try.prog 26 #[.int .i64 8] w (Ret (.agg #[.bool s08.v, .int .u64 (hi s08.e.x), .int .u64 (lo s08.e.x), .int .u64 (hi s08.e.m), .int .u64 (lo s08.e.m), .int .i64 s08.e.len, .int .i64 s08.e.act]) w) := awake12_slot08 w
theorem awake12_ins {v : Value} (w : World) (h : Els w v 7 Slot.cells l12) : Calls Try.prog 10 #[v, ev s16.e] w (RetWE 60 [⟨3, s08⟩, ⟨1, s16⟩] 0 w) := by
  have := ploinsert_any s16.e w h (by simp [l12])
  rwa [ins12] at this
theorem awake12_kept {v : Value} (w : World) (h : Els w v 7 Slot.cells l12) : Calls Try.prog 17 #[v] w (Ret (.bool true) w) := plokept_as kept12 w h (by simp [l12])
theorem awake12_lens {v : Value} (w : World) (h : Els w v 7 Slot.cells l12) : Calls Try.prog 18 #[v] w (Ret (.int .i64 2) w) := by
  have := plolens_any w h (by simp [l12]) (by
    intro s hs
    simp only [l12, List.mem_cons, List.not_mem_nil, or_false] at hs
    rcases hs with rfl | rfl | rfl | rfl <;> constructor <;> decide +kernel)
  rwa [lens12] at this
set_option maxHeartbeats 2000000 in
set_option maxRecDepth 100000 in
theorem awake12_ok (w : World) : Calls Try.prog 8 #[] w (Ret (.bool true) w) := by
  go_enter Try.func8, Try.ntmps8
  go_wp2_with fail
  refine (awake12_sl16 _).mono ?_
  rintro e w1 ⟨rfl, q1, rfl⟩
  go_wp2_with fail
  refine (awake12_sl08 _).mono ?_
  rintro e w1 ⟨rfl, q2, rfl⟩
  go_wp2_with fail
  refine (awake12_sl08 _).mono ?_
  rintro e w1 ⟨rfl, q3, rfl⟩
  obtain ⟨wq, hwq⟩ : ∃ wq, wq = ext (ext (ext w q1) q2) q3 := ⟨_, rfl⟩
  have HKQ := Lib.hid (show Kept w wq by rw [hwq]; exact (kept_extP _ _).trans ((kept_extP _ _).trans (kept_extP _ _)))
  rw [← hwq]
  clear hwq
  go_wp2_with fail
  obtain ⟨gl, hgl⟩ : ∃ gl, gl = wq.heap.size := ⟨_, rfl⟩
  have HB := Lib.hid (Blk.new' wq 58 #[.bool s16.v, .int .u64 (hi s16.e.x), .int .u64 (lo s16.e.x), .int .u64 (hi s16.e.m), .int .u64 (lo s16.e.m), .int .i64 s16.e.len, .int .i64 s16.e.act, .bool s08.v, .int .u64 (hi s08.e.x), .int .u64 (lo s08.e.x), .int .u64 (hi s08.e.m), .int .u64 (lo s08.e.m), .int .i64 s08.e.len, .int .i64 s08.e.act, .bool s08.v, .int .u64 (hi s08.e.x), .int .u64 (lo s08.e.x), .int .u64 (hi s08.e.m), .int .u64 (lo s08.e.m), .int .i64 s08.e.len, .int .i64 s08.e.act, .bool false, .int .u64 0, .int .u64 0, .int .u64 0, .int .u64 0, .int .i64 0, .int .i64 0] hgl)
  have e0 : hi 0#128 = 0 := by kernel_rfl
  have e1 : lo 0#128 = 0 := by kernel_rfl
  have HL := Lib.hid (els_blkS l12 (by
    rw [show (l12.flatMap Slot.cells).toArray = #[.bool s16.v, .int .u64 (hi s16.e.x), .int .u64 (lo s16.e.x), .int .u64 (hi s16.e.m), .int .u64 (lo s16.e.m), .int .i64 s16.e.len, .int .i64 s16.e.act, .bool s08.v, .int .u64 (hi s08.e.x), .int .u64 (lo s08.e.x), .int .u64 (hi s08.e.m), .int .u64 (lo s08.e.m), .int .i64 s08.e.len, .int .i64 s08.e.act, .bool s08.v, .int .u64 (hi s08.e.x), .int .u64 (lo s08.e.x), .int .u64 (hi s08.e.m), .int .u64 (lo s08.e.m), .int .i64 s08.e.len, .int .i64 s08.e.act, .bool false, .int .u64 0, .int .u64 0, .int .u64 0, .int .u64 0, .int .i64 0, .int .i64 0] by simp [l12, Slot.cells, z12, e0, e1]]
    exact HB.out) 4 (Nat.le_refl _))
  have HKL := Lib.hid (show Kept w (wq.alloc (.cells #[.bool s16.v, .int .u64 (hi s16.e.x), .int .u64 (lo s16.e.x), .int .u64 (hi s16.e.m), .int .u64 (lo s16.e.m), .int .i64 s16.e.len, .int .i64 s16.e.act, .bool s08.v, .int .u64 (hi s08.e.x), .int .u64 (lo s08.e.x), .int .u64 (hi s08.e.m), .int .u64 (lo s08.e.m), .int .i64 s08.e.len, .int .i64 s08.e.act, .bool s08.v, .int .u64 (hi s08.e.x), .int .u64 (lo s08.e.x), .int .u64 (hi s08.e.m), .int .u64 (lo s08.e.m), .int .i64 s08.e.len, .int .i64 s08.e.act, .bool false, .int .u64 0, .int .u64 0, .int .u64 0, .int .u64 0, .int .i64 0, .int .i64 0] 58)) from HKQ.out.trans (Kept.alloc (Kept.refl _) _))
  rw [← hgl]
  clear hgl e0 e1
  refine (awake12_sl16 _).mono ?_
  rintro e w1 ⟨rfl, q4, rfl⟩
  go_wp2_with fail
  refine (awake12_ins _ (HL.out.kept (kept_extP _ _))).mono ?_
  rintro e w5 hR
  obtain ⟨a5, c5, rfl, hlc5, hown5, hels5⟩ := RetWE.out2 hR
  obtain ⟨b5, o5, rfl, hb5, hc5⟩ := hels5.at_ 0 (by simp)
  obtain ⟨hd5, hf5⟩ := hels5.at2 1 (by simp)
  have f0 : w5.cell? ⟨b5, o5, none⟩ = some (.int .i64 3) := by have h := hc5 0 (by omega); rw [Nat.zero_mul, Nat.add_zero] at h; exact h
  have f1 : w5.cell? ⟨b5, o5 + 1, none⟩ = some (.bool s08.v) := by have h := hc5 1 (by omega); rw [Nat.zero_mul, Nat.add_zero] at h; exact h
  have f2 : w5.cell? ⟨b5, o5 + 2, none⟩ = some (.int .u64 (hi s08.e.x)) := by have h := hc5 2 (by omega); rw [Nat.zero_mul, Nat.add_zero] at h; exact h
  have f3 : w5.cell? ⟨b5, o5 + 3, none⟩ = some (.int .u64 (lo s08.e.x)) := by have h := hc5 3 (by omega); rw [Nat.zero_mul, Nat.add_zero] at h; exact h
  have f4 : w5.cell? ⟨b5, o5 + 4, none⟩ = some (.int .u64 (hi s08.e.m)) := by have h := hc5 4 (by omega); rw [Nat.zero_mul, Nat.add_zero] at h; exact h
  have f5 : w5.cell? ⟨b5, o5 + 5, none⟩ = some (.int .u64 (lo s08.e.m)) := by have h := hc5 5 (by omega); rw [Nat.zero_mul, Nat.add_zero] at h; exact h
  have f6 : w5.cell? ⟨b5, o5 + 6, none⟩ = some (.int .i64 s08.e.len) := by have h := hc5 6 (by omega); rw [Nat.zero_mul, Nat.add_zero] at h; exact h
  have f7 : w5.cell? ⟨b5, o5 + 7, none⟩ = some (.int .i64 s08.e.act) := by have h := hc5 7 (by omega); rw [Nat.zero_mul, Nat.add_zero] at h; exact h
  have g0 : w5.cell? ⟨b5, o5 + 8, none⟩ = some (.int .i64 1) := by have h := hf5 0 (by omega); rw [Nat.one_mul] at h; exact h
  have g1 : w5.cell? ⟨b5, o5 + 8 + 1, none⟩ = some (.bool s16.v) := by have h := hf5 1 (by omega); rw [Nat.one_mul] at h; exact h
  have h1 : w5.cell? ⟨b5, o5 + 9, none⟩ = some (.bool s16.v) := g1
  have g2 : w5.cell? ⟨b5, o5 + 8 + 2, none⟩ = some (.int .u64 (hi s16.e.x)) := by have h := hf5 2 (by omega); rw [Nat.one_mul] at h; exact h
  have h2 : w5.cell? ⟨b5, o5 + 10, none⟩ = some (.int .u64 (hi s16.e.x)) := g2
  have g3 : w5.cell? ⟨b5, o5 + 8 + 3, none⟩ = some (.int .u64 (lo s16.e.x)) := by have h := hf5 3 (by omega); rw [Nat.one_mul] at h; exact h
  have h3 : w5.cell? ⟨b5, o5 + 11, none⟩ = some (.int .u64 (lo s16.e.x)) := g3
  have g4 : w5.cell? ⟨b5, o5 + 8 + 4, none⟩ = some (.int .u64 (hi s16.e.m)) := by have h := hf5 4 (by omega); rw [Nat.one_mul] at h; exact h
  have h4 : w5.cell? ⟨b5, o5 + 12, none⟩ = some (.int .u64 (hi s16.e.m)) := g4
  have g5 : w5.cell? ⟨b5, o5 + 8 + 5, none⟩ = some (.int .u64 (lo s16.e.m)) := by have h := hf5 5 (by omega); rw [Nat.one_mul] at h; exact h
  have h5 : w5.cell? ⟨b5, o5 + 13, none⟩ = some (.int .u64 (lo s16.e.m)) := g5
  have g6 : w5.cell? ⟨b5, o5 + 8 + 6, none⟩ = some (.int .i64 s16.e.len) := by have h := hf5 6 (by omega); rw [Nat.one_mul] at h; exact h
  have h6 : w5.cell? ⟨b5, o5 + 14, none⟩ = some (.int .i64 s16.e.len) := g6
  have g7 : w5.cell? ⟨b5, o5 + 8 + 7, none⟩ = some (.int .i64 s16.e.act) := by have h := hf5 7 (by omega); rw [Nat.one_mul] at h; exact h
  have h7 : w5.cell? ⟨b5, o5 + 15, none⟩ = some (.int .i64 s16.e.act) := g7
  have HL5 := Lib.hid ((HL.out.kept (kept_extP _ q4)).kept hown5.1)
  have HK5 := Lib.hid (HKL.out.trans ((kept_extP _ q4).trans hown5.1))
  clear hown5 hels5 hc5 hf5 hR HL HB hd5 hlc5 HKL HKQ
  go_wp2_with fail
  refine region_ext _ (Later.refl _) mixed (by kernel_rfl) ?_
  repeat (go_big_quiet_step ((first | (go_at_call 26; first | with_reducible exact calls_in (awake12_sl08 _) | with_reducible exact calls_in (awake12_sl16 _)) | (go_at_call 17; first | with_reducible exact calls_in (awake12_kept _ (HL5.out.kept (kept_extP _ _))) | with_reducible exact calls_in (awake12_kept _ HL5.out)) | (go_at_call 18; first | with_reducible exact calls_in (awake12_lens _ (HL5.out.kept (kept_extP _ _))) | with_reducible exact calls_in (awake12_lens _ HL5.out)))))
  refine wpQuiet_nil ?_
  rintro _ ⟨q, rfl⟩
  go_wp2_with fail
  go_ret
  exact Ret.of (rfl) (by simp (maxDischargeDepth := 99) [HK5.out])
end Go.Proofs.Ytdlikcdmhgbolaa
