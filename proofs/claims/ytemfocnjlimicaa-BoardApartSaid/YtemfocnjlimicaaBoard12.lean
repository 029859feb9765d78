/- A board: Copy: the walk. -/
import Derived.Test.YtemfocnjlimicaaBoard11
import Derived.Test.YtemfocnjlimicaaKitT
namespace Go.Proofs.Ytemfocnjlimicaa
open Go.RowKit Pg

def BoCopyPost (k : Int) (n : Nat) (B : List Bk) (w : World) (e : Ending) (w2 : World) : Prop := ∃ gb gp cap bs, e = .returned (.pointer (some ⟨gb, 0, none⟩)) ∧ BoardAt w w2 gb gp k n cap bs ∧ bs.length = B.length ∧ ∀ (i : Nat) (h : i < bs.length) (h' : i < B.length), bs[i].l = B[i].l ∧ bs[i].c = B[i].c
set_option maxHeartbeats 4000000 in
set_option maxRecDepth 100000 in
theorem bocopy_any {W0 w : World} {gb gp cap n : Nat} {k : Int} {B : List Bk} (h : BoardAt W0 w gb gp k n cap B) (hB : B.length ≤ 8) : Calls Try.prog 25 #[.pointer (some ⟨gb, 0, none⟩)] w (BoCopyPost k n B w) := by
  obtain ⟨x0, x1, x2, xl⟩ := Blk.three h.blk
  have HBo := Lib.hid h
  clear h
  go_enter Try.func25, Try.ntmps25
  go_wp2_with fail
  refine region_ext_tail _ (by first | exact Later.ext _ _ | exact Later.refl _) 9 mixed (by kernel_rfl) ?_
  simp only [List.take_succ_cons, List.take_zero, List.drop_succ_cons, List.drop_zero]
  repeat (go_big_quiet_step (fail))
  refine wpQuiet_nil ?_
  rintro _ ⟨q, rfl⟩
  go_wp2_with fail
  obtain ⟨gc, hgc⟩ : ∃ gc, gc = (ext w q).heap.size := ⟨_, rfl⟩
  obtain ⟨wa, hwa⟩ : ∃ wa, wa = (ext w q).alloc (.cells #[.int .i64 k, .int .i64 (n : Int), .slice none 0 0] 93) := ⟨_, rfl⟩
  have HA := Lib.hid (show CopyAt w wa gc k n (.slice none 0 0) B [] from CopyAt.start B (by rw [hwa]; exact Kept.alloc (below_ext _ _) _) (by rw [hwa]; exact Blk.new' _ _ _ hgc) (by rw [hgc]; exact (below_ext w q).size))
  rw [← hgc, ← hwa]
  clear hgc hwa x0 x1 x2 xl
  go_loopw [5, 21] (fun _ vk wr => ∃ (v : Value) (bs : List Bk), bs.length ≤ B.length ∧ vk = .int .i64 (bs.length : Int) ∧ CopyAt w wr gc k n v B bs) (fun _ vk _ => B.length - (intOf vk).toNat)
  case atStart => exact ⟨_, [], by simp, rfl, HA.out⟩
  case round =>
    clear HA
    obtain ⟨v, bs, hj, rfl, hC⟩ := hrel
    have HX := Lib.hid hC
    by_cases hlt : bs.length < B.length
    · have hjl : (bs.length : Int) < (B.length : Int) := by omega
      have j0 : (0 : Int) ≤ (bs.length : Int) := by omega
      have hptr := (HBo.out.kept hC.banks.kept).ptr bs.length hlt
      have hpl : gp < wr.heap.size := ((HBo.out.kept hC.banks.kept).row.2.lt gp rfl).2
      have hcall := Lib.hid (fun W (hk : Kept wr W) => bcopy_any ((HBo.out.kept (hC.banks.kept.trans hk)).banks.at_ B[bs.length] (List.getElem_mem hlt)))
      have HZ := Lib.hid (HBo.out.size B[bs.length] (List.getElem_mem hlt))
      obtain ⟨b, hb⟩ : ∃ b, B[bs.length] = b := ⟨_, rfl⟩
      rw [hb] at hptr hcall HZ
      have HB9 := Lib.hid hb
      obtain ⟨L, hL⟩ : ∃ L, b.l = L := ⟨_, rfl⟩
      obtain ⟨C, hC9⟩ : ∃ C, b.c = C := ⟨_, rfl⟩
      rw [hL] at hcall HZ
      rw [hC9] at hcall
      have HL := Lib.hid hL
      have HC := Lib.hid hC9
      have hbs8 : bs.length ≤ 8 := by omega
      clear hC hb hL hC9
      go_wp2_with fail
      have hIc := HasBlk.cell (W := w) (g := gc) (t := 93) (cs := #[.int .i64 k, .int .i64 (n : Int), v])
      have hIl := HasBlk.lt (W := w) (g := gc) (t := 93) (cs := #[.int .i64 k, .int .i64 (n : Int), v])
      have hne : Nonempty (In (HasBlk w gc 93 #[.int .i64 k, .int .i64 (n : Int), v])) := ⟨⟨wr, ⟨HX.out.banks.kept, HX.out.blk⟩⟩⟩
      clear hptr hpl
      refine region_seqT (fun w' => ∃ t : In (HasBlk w gc 93 #[.int .i64 k, .int .i64 (n : Int), v]), w' = t.w) 9 ⟨⟨_, ⟨HX.out.banks.kept.drawn1, HX.out.blk.kept (Kept.drawn1 (Kept.refl _))⟩⟩, rfl⟩ mixed (by kernel_rfl) (by kernel_rfl) ?_
      intro W1 hW1
      have HK1 := Lib.hid (show Kept wr W1 by rw [hW1]; exact Kept.drawn1 (Kept.refl _))
      have HX1 := Lib.hid (HX.out.kept HK1.out)
      clear hW1
      simp only [List.take_succ_cons, List.take_zero, List.drop_succ_cons, List.drop_zero]
      repeat (refine seq_plain (by rfl) ?_; go_big_quiet_step (fail); refine wpQuiet_nil ?_)
      refine seq_move (by rfl) (by rfl) ?_
      go_wp2_with fail
      refine (hcall.out _ HK1.out).mono ?_
      rintro e w1 ⟨g, gr, rfl, hk1, hB1⟩
      have HK2 := Lib.hid hk1
      have HB2 := Lib.hid hB1
      clear hk1 hB1
      go_wp2_with fail
      refine ⟨_, rfl, ⟨⟨_, ⟨HX1.out.banks.kept.trans HK2.out, HX1.out.blk.kept HK2.out⟩⟩, rfl⟩, ?_⟩
      repeat (refine seq_plain (by rfl) ?_; go_big_quiet_step (fail); refine wpQuiet_nil ?_)
      refine seq_move (by rfl) (by rfl) ?_
      go_wp2_with fail
      refine ⟨_, rfl, ⟨⟨_, ⟨(HX1.out.banks.kept.trans HK2.out).alloc _, (HX1.out.blk.kept HK2.out).alloc _⟩⟩, rfl⟩, ?_⟩
      repeat (refine seq_plain (by rfl) ?_; go_big_quiet_step (fail); refine wpQuiet_nil ?_)
      refine seq_move (by rfl) (by rfl) ?_
      go_wp2_with (first | (at_builtin; refine wpList_push2 rfl _ _ 91 rfl 42 (.pointer none) 1 8 Try.underlying91 info_bankp rfl (by omega) v bs.length (bs.map Bk.ptr) rfl ((HX1.out.row.step HK2.out).alloc _) _ 1 1 [.pointer (some ⟨g, 0, none⟩)] rfl rfl (heap_alloc_new _ _) (by simp [Value.oneCell']) (by unfold maxLen; omega) (by omega) ?_; intro v' w9 hown9 hgr9 hap9))
      have HO9 := Lib.hid hown9
      have HG9 := Lib.hid hgr9
      have HA9 := Lib.hid hap9
      have FB := (((HX1.out.blk.kept HK2.out).alloc _).grown hgr9 HX1.out.ne)
      refine ⟨_, rfl, ⟨⟨_, ⟨hown9.1, FB⟩⟩, rfl⟩, ?_⟩
      repeat (refine seq_plain (by rfl) ?_; go_big_quiet_step (fail); refine wpQuiet_nil ?_)
      refine seq_nil ?_
      have rf := FB.frozen
      have y0 := fun j => FB.cell j
      have yl := FB.lt
      obtain ⟨ga, ca, rfl, hfa, hfb, hfc, hfd, hfe⟩ := hown9.form (by omega)
      clear hown9 hgr9 hap9 FB hfa hfb hfc hfd hfe hIc hIl hne
      go_wp2_with fail
      go_roundw
      case rel => exact ⟨_, bs ++ [⟨g, gr, L, C⟩], by rw [List.length_append]; show bs.length + 1 ≤ B.length; omega, by rw [List.length_append]; go_num, HX1.out.round HK2.out HB2.out hlt (by rw [HB9.out]; exact HL.out) (by rw [HB9.out]; exact HC.out) HZ.out HO9.out HG9.out HA9.out⟩
      case measure => simp [intOf]; omega
    · have hjl : bs.length = B.length := by omega
      have hpos := HBo.out.pos
      obtain ⟨gp2, cap2, hbo⟩ := HX.out.board (by omega)
      have HBO := Lib.hid hbo
      have HJ := Lib.hid hjl
      clear hC hbo hlt hjl
      have g9 : decide ((bs.length : Int) < (B.length : Int)) = false := decide_eq_false (by have := HJ.out; omega)
      have g8 : ¬ (bs.length : Int) < (B.length : Int) := by have := HJ.out; omega
      have g7 : ¬ bs.length < B.length := by have := HJ.out; omega
      go_wp2_with fail
      go_ret
      exact ⟨gc, gp2, cap2, bs, rfl, HBO.out, HJ.out, HX.out.same⟩
end Go.Proofs.Ytemfocnjlimicaa
