/- Writes as lists: the law's Writes. -/
import Derived.Test.YtdlikcdmhgbolaaBank5
import Derived.Test.YtdlikcdmhgbolaaKit5
namespace Go.Proofs.Ytdlikcdmhgbolaa
open Go.RowKit Pg

set_option maxHeartbeats 1000000 in
set_option maxRecDepth 100000 in
theorem law08writes_any {l : List Wr} {v : Value} (w : World) (hl : Els w v 8 Wr.cells l) (hn : l.length ≤ 1000) : Calls Try.prog 36 #[v] w (RetEls 76 8 Wr.cells l w) := by
  obtain ⟨a, c, rfl, hc, he⟩ := hl.form
  have HE := Lib.hid he
  clear hl he
  go_enter Try.func36, Try.ntmps36
  go_wp2_with fail
  go_loopw [3, 5, 8] (fun vo _ vk wr => ∃ k : Nat, k ≤ l.length ∧ vk = .int .i64 k ∧ Own w wr 76 8 vo k ((l.take k).flatMap Wr.cells)) (fun _ _ k _ => l.length - (intOf k).toNat)
  case atStart => exact ⟨0, by omega, rfl, Own.nil _ _ (Kept.refl _) _ _⟩
  case round =>
    obtain ⟨k, hk, rfl, hown⟩ := hrel
    by_cases hlt : k < l.length
    · have HO := Lib.hid hown
      have hkl : (k : Int) < (l.length : Int) := by omega
      have HT := Lib.hid (show l.take (k + 1) = l.take k ++ [l[k]] from List.take_succ_eq_append_getElem hlt)
      obtain ⟨b, o, rfl, hb, hcell⟩ := (HE.out.kept hown.kept).at_ (k) hlt
      obtain ⟨e, hee⟩ : ∃ e, (l)[k]'hlt = e := ⟨_, rfl⟩
      rw [hee] at hcell
      have c0 : wr.cell? ⟨b, o + k * 8, none⟩ = some (.int .i64 e.at_) := hcell 0 (by omega)
      have c1 : wr.cell? ⟨b, o + k * 8 + 1, none⟩ = some (.bool e.s.v) := hcell 1 (by omega)
      have c2 : wr.cell? ⟨b, o + k * 8 + 2, none⟩ = some (.int .u64 (hi e.s.e.x)) := hcell 2 (by omega)
      have c3 : wr.cell? ⟨b, o + k * 8 + 3, none⟩ = some (.int .u64 (lo e.s.e.x)) := hcell 3 (by omega)
      have c4 : wr.cell? ⟨b, o + k * 8 + 4, none⟩ = some (.int .u64 (hi e.s.e.m)) := hcell 4 (by omega)
      have c5 : wr.cell? ⟨b, o + k * 8 + 5, none⟩ = some (.int .u64 (lo e.s.e.m)) := hcell 5 (by omega)
      have c6 : wr.cell? ⟨b, o + k * 8 + 6, none⟩ = some (.int .i64 e.s.e.len) := hcell 6 (by omega)
      have c7 : wr.cell? ⟨b, o + k * 8 + 7, none⟩ = some (.int .i64 e.s.e.act) := hcell 7 (by omega)
      have Hee := Lib.hid hee
      clear hcell hee
      rw [Hee.out] at HT
      clear hown Hee
      obtain ⟨g, hg⟩ : ∃ g, g = wr.heap.size := ⟨_, rfl⟩
      have HB := Lib.hid (Blk.new' wr 60 #[.int .i64 e.at_, .bool e.s.v, .int .u64 (hi e.s.e.x), .int .u64 (lo e.s.e.x), .int .u64 (hi e.s.e.m), .int .u64 (lo e.s.e.m), .int .i64 e.s.e.len, .int .i64 e.s.e.act] hg)
      have HG := Lib.hid hg
      clear hg
      go_wp2_with fail
      rw [← HG.out]
      have hI0 : HasBlk w g 60 #[.int .i64 e.at_, .bool e.s.v, .int .u64 (hi e.s.e.x), .int .u64 (lo e.s.e.x), .int .u64 (hi e.s.e.m), .int .u64 (lo e.s.e.m), .int .i64 e.s.e.len, .int .i64 e.s.e.act] (wr.alloc (.cells #[.int .i64 e.at_, .bool e.s.v, .int .u64 (hi e.s.e.x), .int .u64 (lo e.s.e.x), .int .u64 (hi e.s.e.m), .int .u64 (lo e.s.e.m), .int .i64 e.s.e.len, .int .i64 e.s.e.act] 60)) := ⟨(HO.out.alloc _).1, HB.out⟩
      have hIc := HasBlk.cell (W := w) (g := g) (t := 60) (cs := #[.int .i64 e.at_, .bool e.s.v, .int .u64 (hi e.s.e.x), .int .u64 (lo e.s.e.x), .int .u64 (hi e.s.e.m), .int .u64 (lo e.s.e.m), .int .i64 e.s.e.len, .int .i64 e.s.e.act])
      have hne : Nonempty (In (HasBlk w g 60 #[.int .i64 e.at_, .bool e.s.v, .int .u64 (hi e.s.e.x), .int .u64 (lo e.s.e.x), .int .u64 (hi e.s.e.m), .int .u64 (lo e.s.e.m), .int .i64 e.s.e.len, .int .i64 e.s.e.act])) := ⟨⟨_, hI0⟩⟩
      refine region_seq_in _ (hI0.step (Kept.drawn1 (Kept.refl _))) mixed (by kernel_rfl) (by kernel_rfl) ?_
      intro W1 hW1
      have H1 := Lib.hid (show Own w W1 76 8 u3 k ((l.take k).flatMap Wr.cells) by rw [hW1]; exact (HO.out.alloc _).drawn1)
      have HI := Lib.hid (hI0.step (Kept.drawn1 (Kept.refl _)))
      rw [← hW1] at HI
      clear hW1 hI0
      repeat (refine seq_plain (by rfl) ?_; go_big_quiet_step (fail); refine wpQuiet_nil ?_)
      refine seq_move (by rfl) (by rfl) ?_
      go_wp2_with (first | (go_at_call 27; first | ((refine (calls_in (law08one_any _ _)).mono ?_); rintro e w1 ⟨rfl, q1, rfl⟩) | ((refine (law08one_any _ _).mono ?_); rintro e w1 ⟨rfl, q1, rfl⟩)))
      refine ⟨_, rfl, ⟨⟨_, HI.out.step (below_ext _ _)⟩, rfl⟩, ?_⟩
      repeat (refine seq_plain (by rfl) ?_; go_big_quiet_step (fail); refine wpQuiet_nil ?_)
      refine seq_move (by rfl) (by rfl) ?_
      go_wp2_with fail
      refine ⟨_, rfl, ⟨⟨_, HI.out.step (Kept.alloc (below_ext _ _) _)⟩, rfl⟩, ?_⟩
      repeat (refine seq_plain (by rfl) ?_; go_big_quiet_step (fail); refine wpQuiet_nil ?_)
      refine seq_move (by rfl) (by rfl) ?_
      go_wp2_with (first | (at_builtin; refine wpList_push2 rfl _ _ 37 rfl 76 (.agg #[.int .i64 0, .bool false, .int .u64 0, .int .u64 0, .int .u64 0, .int .u64 0, .int .i64 0, .int .i64 0]) 8 64 Try.underlying37 info_refwr rfl (by omega) u3 k _ rfl ((H1.out.ext _).alloc _) _ 1 1 (Wr.cells e) rfl rfl (heap_alloc_new _ _) (by simp [Wr.cells, Value.oneCell']) (by unfold maxLen; omega) (by omega) ?_; intro v' w9 hown9 hgr9 hap9))
      have hI9 := Lib.hid (show HasBlk w g 60 #[.int .i64 e.at_, .bool e.s.v, .int .u64 (hi e.s.e.x), .int .u64 (lo e.s.e.x), .int .u64 (hi e.s.e.m), .int .u64 (lo e.s.e.m), .int .i64 e.s.e.len, .int .i64 e.s.e.act] w9 from ⟨hown9.1, (HI.out.step (Kept.alloc (below_ext _ _) _)).blk.grown hgr9 fun h => by
        have := (HO.out.2.lt g h).2
        rw [HG.out] at this; omega⟩)
      clear hgr9 hap9
      refine ⟨_, rfl, ⟨⟨_, hI9.out⟩, rfl⟩, ?_⟩
      repeat (refine seq_plain (by rfl) ?_; go_big_quiet_step (fail); refine wpQuiet_nil ?_)
      refine seq_nil ?_
      go_wp2_with fail
      go_roundw
      case rel => exact ⟨k + 1, by omega, by go_num, by rw [HT.out, List.flatMap_append]; simpa using hown9⟩
      case measure => simp [intOf]; omega
    · have hkl : k = l.length := by omega
      subst hkl
      have HO := Lib.hid hown
      clear hown hlt hk
      go_wp2_with fail
      go_ret
      exact RetEls.mk (Kept.refl w) (by have := HO.out; rwa [List.take_length] at this)
end Go.Proofs.Ytdlikcdmhgbolaa
