/- What two words are merged to by the reference of layer 4: the contract over the program. -/
import Derived.Test.YtecpgbkmpfijoaaRef04b
namespace Go.Proofs.Ytecpgbkmpfijoaa
open Go.RowKit Pg

def dcount (d : B) (k : Nat) : Nat := (List.range k).countP (bt d)
def dlast (d : B) : Nat → Int
  | 0 => -1
  | k + 1 => if bt d k then (k : Int) else dlast d k
theorem dcount_le (d : B) (k : Nat) : dcount d k ≤ k := by unfold dcount; have := List.countP_le_length (p := bt d) (l := List.range k); simpa using this
theorem dcount_succ (d : B) (k : Nat) : dcount d (k + 1) = dcount d k + (bt d k).toNat := by
  unfold dcount
  rw [List.range_succ, List.countP_append]
  cases h : bt d k <;> simp [h]
theorem dlast_spec (d : B) : ∀ n, (dlast d n = -1 ∧ ∀ i, i < n → bt d i = false) ∨ ∃ k : Nat, k < n ∧ dlast d n = (k : Int) ∧ bt d k = true
  | 0 => .inl ⟨rfl, fun i h => by omega⟩
  | n + 1 => by
    unfold dlast
    cases h : bt d n
    · rw [if_neg (by simp)]
      rcases dlast_spec d n with ⟨h1, h2⟩ | ⟨k, h1, h2, h3⟩
      · left; refine ⟨h1, fun i hi => ?_⟩
        rcases Nat.lt_or_ge i n with h4 | h4
        · exact h2 i h4
        · rw [show i = n by omega]; exact h
      · right; exact ⟨k, by omega, h2, h3⟩
    · rw [if_pos rfl]
      exact .inr ⟨n, by omega, rfl, h⟩
theorem dlast_one (d : B) (h : ones d = 1) : ∃ k : Nat, k < 128 ∧ dlast d 128 = (k : Int) ∧ bt d k = true ∧ ∀ j, j < 128 → bt d j = true → j = k := by
  obtain ⟨k, hk, hb, hu⟩ := ones_one d h
  rcases dlast_spec d 128 with ⟨_, h2⟩ | ⟨j, h1, h2, h3⟩
  · rw [h2 k hk] at hb; cases hb
  · obtain rfl := hu j h1 h3
    exact ⟨j, h1, h2, h3, hu⟩
def mergeV (x m y n : B) : Value := if m = n ∧ ones (differB x y m) = 1 then .tuple #[wv (x &&& (m ^^^ differB x y m)) (m ^^^ differB x y m), .bool true] else .tuple #[wv 0#128 0#128, .bool false]
theorem bt_merge {x m y : B} {k : Nat} (hk : k < 128) (hd : bt (differB x y m) k = true) (hu : ∀ j, j < 128 → bt (differB x y m) j = true → j = k) (i : Nat) (hi : i < 128) :
    bt (m ^^^ differB x y m) i = upd (bt m) k false i := by
  by_cases he : i = k
  · subst he
    rw [upd_same, bt_xor, hd]
    rw [bt_differ, Bool.and_eq_true] at hd
    rw [hd.2]; rfl
  · rw [upd_other _ _ _ _ he, bt_xor]
    have : bt (differB x y m) i = false := by
      cases e : bt (differB x y m) i
      · rfl
      · exact absurd (hu i hi e) he
    rw [this]; simp
set_option maxHeartbeats 4000000 in
set_option maxRecDepth 100000 in
theorem refwmerge_any (x m y n : B) (w : World) : Calls Try.prog 11 #[wv x m, wv y n] w (Ret (mergeV x m y n) w) := by
  go_enter Try.func11, Try.ntmps11
  go_wp2_with fail
  refine (bits_any x _).mono ?_
  rintro e w1 ⟨g0, rfl, hg0, hb0, p0, rfl⟩
  have hl0 := hb0.lt
  have HB0 := Lib.hid hb0
  clear hb0
  go_wp2_with fail
  refine (calls_in_bits (bits_any m _)).mono ?_
  rintro e w1 ⟨g1, rfl, hg1, hb1, p1, rfl, hk1⟩
  have hb0 := Blk.kept HB0.out hk1
  have hne : ¬ g0 = g1 := by omega
  clear hk1 HB0 hl0
  have hl0 := hb0.lt
  have hl1 := hb1.lt
  have HB0 := Lib.hid hb0
  have HB1 := Lib.hid hb1
  have hw0 : w.heap.size + 2 < g0 := by
    rcases Nat.lt_or_ge (w.heap.size + 2) g0 with h | h
    · exact h
    · simp only [World.size_alloc] at hg0; omega
  clear hb0 hb1 hg0
  go_wp2_with fail
  refine (calls_in_bits (bits_any y _)).mono ?_
  rintro e w1 ⟨g2, rfl, hg2, hb2, p2, rfl, hk2⟩
  have hb0 := Blk.kept HB0.out hk2
  have hb1 := Blk.kept HB1.out hk2
  have hne2 : ¬ g0 = g2 := by omega
  have hw1 : w.heap.size + 2 < g1 := by
    rcases Nat.lt_or_ge (w.heap.size + 2) g1 with h | h
    · exact h
    · have h1 := ext_size (((w.alloc (Obj.cells #[.int .u64 (hi x), .int .u64 (lo x), .int .u64 (hi m), .int .u64 (lo m)] 30)).alloc (Obj.cells #[.int .u64 (hi y), .int .u64 (lo y), .int .u64 (hi n), .int .u64 (lo n)] 30)).alloc (Obj.cells #[.int .u64 0, .int .u64 0, .int .u64 0, .int .u64 0] 30)) p0
      simp only [World.size_alloc] at h1; omega
  clear hk2 HB0 HB1 hl0 hl1
  have hl0 := hb0.lt
  have hl1 := hb1.lt
  have hl2 := hb2.lt
  have HB0 := Lib.hid hb0
  have HB1 := Lib.hid hb1
  have HB2 := Lib.hid hb2
  clear hb0 hb1 hb2 hg1 hg2
  go_wp2_with fail
  go_loopw [9, 10, 11] (fun va vn vk wr => ∃ (k : Nat) (f : Nat → Bool), k ≤ 128 ∧ vk = .int .i64 k ∧ vn = .int .i64 (dcount (differB x y m) k : Int) ∧ va = .int .i64 (dlast (differB x y m) k) ∧ (∀ i, i < 128 → f i = if i < k then bt x i && bt m i else bt x i) ∧ Kept w wr ∧ IsBits wr g0 4 f ∧ IsBits wr g1 4 (bt m) ∧ IsBits wr g2 4 (bt y) ∧ Blk wr w.heap.size 30 #[.int .u64 (hi x), .int .u64 (lo x), .int .u64 (hi m), .int .u64 (lo m)] ∧ Blk wr (w.heap.size + 1) 30 #[.int .u64 (hi y), .int .u64 (lo y), .int .u64 (hi n), .int .u64 (lo n)] ∧ Blk wr (w.heap.size + 1 + 1) 30 #[.int .u64 0, .int .u64 0, .int .u64 0, .int .u64 0]) (fun _ _ k _ => 128 - (intOf k).toNat)
  case atStart => exact ⟨0, bt x, by omega, rfl, rfl, rfl, fun i hi => by simp, by simp (maxDischargeDepth := 99), HB0.out, HB1.out, HB2.out, Blk.ext (Blk.alloc (Blk.alloc (Blk.new _ _ _) _) _) _, Blk.ext (Blk.alloc (Blk.new' _ _ _ (by simp)) _) _, Blk.ext (Blk.new' _ _ _ (by simp)) _⟩
  case round =>
    clear HB0 HB1 HB2 hl0 hl1 hl2
    obtain ⟨k, f, hk, rfl, rfl, rfl, hf, hkw, hb0, hb1, hb2, hx, hy, hr⟩ := hrel
    have HX := Lib.hid (And.intro hf (And.intro hkw (And.intro hb0 (And.intro hb1 (And.intro hb2 (And.intro hx (And.intro hy hr)))))))
    have hcl := dcount_le (differB x y m) k
    by_cases hlt : k < 128
    · have c0 := hb0.cell k hlt
      have c1 := hb1.cell k hlt
      have c2 := hb2.cell k hlt
      have f0 := Blk.frozen hb0
      have hfk : f k = bt x k := by rw [hf k hlt, if_neg (by omega)]
      have l0 := hb0.lt
      have l1 := hb1.lt
      have l2 := hb2.lt
      have i0 : (0 : Int) ≤ k := by omega
      have i1 : (k : Int) < 128 := by omega
      rw [hfk] at c0
      have hds := dcount_succ (differB x y m) k
      have hdl : dlast (differB x y m) (k + 1) = if bt (differB x y m) k then (k : Int) else dlast (differB x y m) k := rfl
      rw [bt_differ] at hds hdl
      clear hf hkw hb0 hb1 hb2 hx hy hr hfk
      cases h0 : bt x k <;> cases h1 : bt m k <;> cases h2 : bt y k
      all_goals
        rw [h0] at c0
        rw [h1] at c1
        rw [h2] at c2
        rw [h0, h1, h2] at hds hdl
        simp at hds hdl
        have HV := Lib.hid (show (bt x k && bt m k) = _ by rw [h0, h1])
        have HD := Lib.hid (And.intro hds hdl)
        clear h0 h1 h2 hds hdl
        go_wp2_with fail
        refine region_ext _ (Later.refl _) mixed (by kernel_rfl) ?_
        repeat (go_big_quiet_step (fail))
        refine wpQuiet_nil ?_
        rintro _ ⟨q, rfl⟩
        go_wp2_with fail
        go_roundw
        case rel =>
          refine ⟨k + 1, upd f k (bt x k && bt m k), by omega, by go_num, by rw [HD.out.1] <;> go_num, by rw [HD.out.2], fun i hi => ?_, Kept.setCell (Kept.ext HX.out.2.1 _) _ _ _ (by omega) _, ?_, Blk.far (Blk.ext HX.out.2.2.2.1 _) (fun h => hne h.symm) _, Blk.far (Blk.ext HX.out.2.2.2.2.1 _) (fun h => hne2 h.symm) _, Blk.far (Blk.ext HX.out.2.2.2.2.2.1 _) (by simp; omega) _, Blk.far (Blk.ext HX.out.2.2.2.2.2.2.1 _) (by simp; omega) _, Blk.far (Blk.ext HX.out.2.2.2.2.2.2.2 _) (by simp; omega) _⟩
          · by_cases he : i = k
            · subst he; rw [upd_same, if_pos (by omega)]
            · rw [upd_other _ _ _ _ he, HX.out.1 i hi]
              by_cases h5 : i < k
              · rw [if_pos h5, if_pos (by omega)]
              · rw [if_neg h5, if_neg (by omega)]
          · unfold IsBits; rw [← bitCells_set, HV.out]; exact Blk.set_ (Blk.ext HX.out.2.2.1 _) _ _
        case measure => simp [intOf]; omega
    · have hk128 : k = 128 := by omega
      subst hk128
      have hcone : dcount (differB x y m) 128 = ones (differB x y m) := rfl
      rw [hcone]
      obtain ⟨x0, x1, x2, x3, xl⟩ := Blk.four hx
      obtain ⟨y0, y1, y2, y3, yl⟩ := Blk.four hy
      obtain ⟨r0, r1, r2, r3, rl⟩ := Blk.four hr
      have rf := Blk.frozen hr
      have f0 := Blk.frozen hb0
      have f1 := Blk.frozen hb1
      have l0 := hb0.lt
      have l1 := hb1.lt
      have c0 := Lib.hid (fun k hk => hb0.cell k hk)
      have c1 := Lib.hid (fun k hk => hb1.cell k hk)
      have hne' : ¬ g1 = g0 := fun h => hne h.symm
      clear hlt hk hf hkw hb0 hb1 hb2 hx hy hr hcl hcone
      by_cases hmn : m = n
      · subst hmn
        by_cases ho : ones (differB x y m) = 1
        · have HV := Lib.hid (show mergeV x m y m = .tuple #[wv (x &&& (m ^^^ differB x y m)) (m ^^^ differB x y m), .bool true] from if_pos ⟨rfl, ho⟩)
          obtain ⟨k, hk, hd, hbk, hu⟩ := dlast_one _ ho
          have HM := Lib.hid (bt_merge hk hbk hu)
          rw [hd, ho]
          have i0 : (0 : Int) ≤ k := by omega
          have i1 : (k : Int) < 128 := by omega
          have c0 := c0.out k hk
          have c1 := c1.out k hk
          clear ho hd hbk hu
          go_wp2_with fail
          refine named_call fun w2 hw2 => ?_
          have B0 : IsBits w2 g0 4 (upd f k false) := by
            rw [hw2]; unfold IsBits; rw [← bitCells_set]; exact Blk.set_ (Blk.far HX.out.2.2.1 hne _) _ _
          have B1 : IsBits w2 g1 4 (upd (bt m) k false) := by
            rw [hw2]; unfold IsBits; rw [← bitCells_set]; exact Blk.far (Blk.set_ HX.out.2.2.2.1 _ _) hne' _
          have BR : Blk w2 (w.heap.size + 1 + 1) 30 #[.int .u64 0, .int .u64 0, .int .u64 0, .int .u64 0] := by
            rw [hw2]; exact Blk.far (Blk.far HX.out.2.2.2.2.2.2.2 (by simp; omega) _) (by simp; omega) _
          have hkw : Kept w w2 := by rw [hw2]; exact Kept.setCell (Kept.setCell HX.out.2.1 _ _ _ (by omega) _) _ _ _ (by omega) _
          clear hw2 r0 r1 r2 r3 rl rf x0 x1 x2 x3 xl y0 y1 y2 y3 yl f0 f1 l0 l1 c0 c1
          obtain ⟨r0, r1, r2, r3, rl⟩ := Blk.four BR
          have rf := Blk.frozen BR
          have l0 := B0.lt
          have l1 := B1.lt
          have W0 := Lib.hid (fun i (hi : i < 128) => show (upd f k false) i = bt (x &&& (m ^^^ differB x y m)) i by
            rw [bt_and, HM.out i hi]
            by_cases he : i = k
            · rw [he, upd_same, upd_same]; simp
            · rw [upd_other _ _ _ _ he, upd_other _ _ _ _ he, HX.out.1 i hi, if_pos hi])
          have B0 := Lib.hid B0
          have B1 := Lib.hid B1
          refine (words_any (x &&& (m ^^^ differB x y m)) g0 128 _ l0 (fun i hi => by rw [B0.out.cell i hi, W0.out i hi])).mono ?_
          rintro e w1 ⟨rfl, q1, rfl⟩
          go_wp2_with fail
          have B2 := Lib.hid (show IsBits (ext w2 q1) g1 4 (upd (bt m) k false) from Blk.ext B1.out q1)
          refine (calls_in (words_any (m ^^^ differB x y m) g1 128 (ext w2 q1) (Nat.lt_of_lt_of_le l1 (ext_size _ _)) (fun i hi => by rw [B2.out.cell i hi, HM.out i hi]))).mono ?_
          rintro e w1 ⟨rfl, q2, rfl⟩
          go_wp2_with fail
          refine bodyPost_ret (v := .tuple #[wv (x &&& (m ^^^ differB x y m)) (m ^^^ differB x y m), .bool true]) ?_ rfl (Ret.of HV.out.symm (by simp (maxDischargeDepth := 99) [hkw]))
          simp [results, Try.results11, go_sem, wv, r0, r1, r2, r3, rl]
        · have HV := Lib.hid (show mergeV x m y m = .tuple #[wv 0#128 0#128, .bool false] from if_neg fun h => ho h.2)
          have c : ((ones (differB x y m) : Int) != 1) = true := by rw [bne_iff_ne]; omega
          clear ho
          go_wp2_with fail
          refine bodyPost_ret (v := .tuple #[wv 0#128 0#128, .bool false]) ?_ rfl (Ret.of HV.out.symm (by simp (maxDischargeDepth := 99) [HX.out.2.1]))
          simp [results, Try.results11, go_sem, wv, r0, r1, r2, r3]
      · have HV := Lib.hid (show mergeV x m y n = .tuple #[wv 0#128 0#128, .bool false] from if_neg fun h => hmn h.1)
        go_wp2_with fail
        refine bodyPost_ret (v := .tuple #[wv 0#128 0#128, .bool false]) ?_ rfl (Ret.of HV.out.symm (by simp (maxDischargeDepth := 99) [HX.out.2.1]))
        simp [results, Try.results11, go_sem, wv, r0, r1, r2, r3]
end Go.Proofs.Ytecpgbkmpfijoaa
