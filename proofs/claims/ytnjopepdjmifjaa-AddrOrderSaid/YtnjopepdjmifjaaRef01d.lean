/- What the reference of layer 1 hands back: which of two addresses is the greater one, and the next one: the contracts over the program. -/
import Derived.Test.YtnjopepdjmifjaaRef01b
namespace Go.Proofs.Ytnjopepdjmifjaa
open Go.RowKit Pg

theorem refcmp_any (x y : B) (w : World) : Calls Try.prog 29 #[av x, av y] w (Ret (.int .i64 (cmpB x y)) w) := by
  have hc := Lib.hid (cmp_of_common x y)
  have hle := common_le x y
  by_cases h : common x y = 128
  · have he := Lib.hid (show cmpB x y = 0 by rw [hc.out, if_pos h])
    have ht : ((common x y : Int) == 128) = true := by rw [h]; rfl
    clear h
    go_enter Try.func29, Try.ntmps29
    go_wp2_with (go_at_call 27; refine (refcommon_any _ _ _).mono ?_; rintro e w1 ⟨rfl, q1, rfl⟩)
    go_ret
    exact Ret.of (by rw [he.out]; rfl) (by simp (maxDischargeDepth := 99))
  · have hlt : common x y < 128 := by omega
    have ht : ((common x y : Int) == 128) = false := by rw [beq_eq_false_iff_ne]; omega
    have i0 : (0 : Int) ≤ common x y := by omega
    have i1 : (common x y : Int) < 128 := by omega
    have he := Lib.hid (show cmpB x y = if bt y (common x y) then -1 else 1 by rw [hc.out, if_neg h])
    clear h
    have hcm := Lib.hid (refcommon_any x y)
    generalize hn : common x y = n at *
    clear hn
    cases hb : bt y n
    all_goals
      have hb' := Lib.hid hb
      clear hb
      go_enter Try.func29, Try.ntmps29
      go_wp2_with fail
      refine (hcm.out _).mono ?_
      rintro e w1 ⟨rfl, q1, rfl⟩
      go_wp2_with fail
      refine (calls_in_bits (bits_any y _)).mono ?_
      rintro e w2 ⟨g2, rfl, hg2, hb2, p2, rfl, hk2⟩
      have c := Blk.cell hb2 n
      rw [bitCells_get _ _ hlt, hb'.out] at c
      have l2 := hb2.lt
      clear hb2 hk2 hg2
      go_wp2_with fail
      go_ret
      exact Ret.of (by rw [he.out, hb'.out]; rfl) (by simp (maxDischargeDepth := 99))
set_option maxRecDepth 100000 in
theorem refnext_any (x : B) (w : World) : Calls Try.prog 31 #[av x] w (Ret (av (x + 1#128)) w) := by
  go_enter Try.func31, Try.ntmps31
  go_wp2_with fail
  refine (bits_any x _).mono ?_
  rintro e w1 ⟨g, rfl, hg, hb, p1, rfl⟩
  simp only [World.size_alloc] at hg
  have HB := Lib.hid hb
  have hwg : w.heap.size ≤ g := by omega
  have hne : ¬ g = w.heap.size + 1 := by omega
  have hne' : ¬ w.heap.size + 1 = g := by omega
  clear hb
  go_wp2_with fail
  go_loopw [4] (fun vk wr => ∃ (j : Nat), j ≤ 128 ∧ vk = .int .i64 (127 - j) ∧ Kept w wr ∧ IsBits wr g 4 (fun i => if 127 < i + j then false else bt x i) ∧ (∀ i, 127 < i + j → i < 128 → bt x i = true) ∧ Blk wr (w.heap.size + 1) 23 #[.int .u64 0, .int .u64 0]) (fun k _ => (intOf k + 1).toNat)
  case atStart => exact ⟨0, by omega, rfl, by simp (maxDischargeDepth := 99), by unfold IsBits; rw [bitCells_congr (g := bt x) (fun i hi => if_neg (by omega))]; exact HB.out, fun i h1 h2 => by omega, Blk.ext (Blk.new' _ _ _ (by simp)) _⟩
  case round =>
    clear HB
    obtain ⟨j, hj, rfl, hkw, hb, hones, hr⟩ := hrel
    have HX := Lib.hid (And.intro hkw (And.intro hb (And.intro hones hr)))
    by_cases hlt : j < 128
    · have c1 := Blk.cell hb (127 - j)
      have f1 := Blk.frozen hb
      rw [bitCells_get _ _ (by omega), if_neg (by omega)] at c1
      have l1 := hb.lt
      have i0 : (0 : Int) ≤ 127 - j := by omega
      have i1 : (127 : Int) - j < 128 := by omega
      clear hkw hb hones hr
      cases hx : bt x (127 - j)
      · rw [hx] at c1
        have H1 := Lib.hid hx; clear hx
        have HN : IsBits (wr.setCell ⟨g, 127 - j, none⟩ (.bool true)) g 4 (bt (x + 1#128)) := by
          unfold IsBits
          rw [show bitCells (bt (x + 1#128)) = (bitCells (fun i => if 127 < i + j then false else bt x i)).setIfInBounds (127 - j) (.bool true) from ?_]
          · exact Blk.set_ HX.out.2.1 _ _
          · rw [bitCells_set]; apply bitCells_congr; intro i hi
            rw [bt_next x (127 - j) (by omega) H1.out (fun i' h1 h2 => HX.out.2.2.1 i' (by omega) h2) i hi]
            by_cases he : i = 127 - j
            · subst he; rw [upd_same, if_neg (by omega), if_pos rfl]
            · rw [upd_other _ _ _ _ he, if_neg he]
              by_cases h2 : 127 < i + j
              · rw [if_pos h2, if_pos (by omega)]
              · rw [if_neg h2, if_neg (by omega)]
        have HN' := Lib.hid HN
        clear HN
        have r0 := Blk.cell HX.out.2.2.2 0
        have r1 := Blk.cell HX.out.2.2.2 1
        have rf := Blk.frozen HX.out.2.2.2
        have rl := HX.out.2.2.2.lt
        simp only [List.getElem?_toArray, List.getElem?_cons_zero, List.getElem?_cons_succ] at r0 r1
        go_wp2_with (go_at_call 26; refine (words_any (x + 1#128) g 128 _ (by simpa using l1) (fun i hi => HN'.out.cell i hi)).mono ?_; rintro e w1 ⟨rfl, q1, rfl⟩)
        refine bodyPost_ret (v := av (x + 1#128)) ?_ rfl (Ret.mk (by simp (maxDischargeDepth := 99) [HX.out.1, hwg]))
        simp [results, Try.results31, go_sem, r0, r1, rl]
      · rw [hx] at c1
        have H1 := Lib.hid hx; clear hx
        go_wp2_with fail
        go_roundw
        case rel =>
          refine ⟨j + 1, by omega, by go_num, by simp (maxDischargeDepth := 99) [HX.out.1, hwg], ?_, ?_, Blk.far HX.out.2.2.2 (by simp; omega) _⟩
          · unfold IsBits
            rw [show bitCells (fun i => if 127 < i + (j + 1) then false else bt x i) = (bitCells (fun i => if 127 < i + j then false else bt x i)).setIfInBounds (127 - j) (.bool false) from ?_]
            · exact Blk.set_ HX.out.2.1 _ _
            · rw [bitCells_set]; apply bitCells_congr; intro i hi
              by_cases he : i = 127 - j
              · subst he; rw [upd_same, if_pos (by omega)]
              · rw [upd_other _ _ _ _ he]
                by_cases h2 : 127 < i + j
                · rw [if_pos h2, if_pos (by omega)]
                · rw [if_neg h2, if_neg (by omega)]
          · intro i h1 h2
            by_cases he : i = 127 - j
            · subst he; exact H1.out
            · exact HX.out.2.2.1 i (by omega) h2
        case measure => simp [intOf]; omega
    · have hj128 : j = 128 := by omega
      subst hj128
      have HE := Lib.hid (next_ones x (fun i hi => hones i (by omega) hi))
      have r0 := Blk.cell hr 0
      have r1 := Blk.cell hr 1
      have rf := Blk.frozen hr
      have rl := hr.lt
      have l1 := hb.lt
      simp only [List.getElem?_toArray, List.getElem?_cons_zero, List.getElem?_cons_succ] at r0 r1
      clear hkw hb hones hr hlt hj
      go_wp2_with (go_at_call 26; refine (words_any 0#128 g 128 _ l1 (fun i hi => by rw [HX.out.2.1.cell i hi, if_pos (by omega), bt_zero])).mono ?_; rintro e w1 ⟨rfl, q1, rfl⟩)
      rw [HE.out]
      refine bodyPost_ret (v := av 0#128) ?_ rfl (Ret.mk (by simp (maxDischargeDepth := 99) [HX.out.1]))
      simp [results, Try.results31, go_sem, r0, r1, rl]
end Go.Proofs.Ytnjopepdjmifjaa
