/- slices.Insert of one route: the contract over the program. Routes: rib.Put. -/
import Derived.Test.YtjkhdjonlppdoaaSlRt
import Derived.Test.YtjkhdjonlppdoaaRow
import Derived.Test.YtjkhdjonlppdoaaAddr
import Derived.Shelf.RegionOpenPlain
import Derived.Test.YtjkhdjonlppdoaaMathR2
namespace Pg
open Go Go.RowKit
theorem splice_ins1 (X R T rest : List Value) (a b : Nat) (ha : X.length = a) (hb : R.length = b) : ∃ D, splice (splice (X ++ rest) a R) (a + b) T = (X ++ R ++ T) ++ D := by
  have h1 : splice (X ++ rest) a R = (X ++ R) ++ (X ++ rest).drop (a + R.length) := by
    unfold splice; rw [List.take_left' ha, List.append_assoc]
  refine ⟨((X ++ R) ++ (X ++ rest).drop (a + R.length)).drop (a + b + T.length), ?_⟩
  rw [h1]
  conv => lhs; unfold splice
  rw [List.take_left' (by rw [List.length_append, ha, hb]), List.append_assoc (X ++ R) T]
theorem splice_ins2 (cur X R T : List Value) (a b : Nat) (hX : cur.take a = X) (hab : a + b ≤ cur.length) (hb : R.length = b) : ∃ D, splice (splice cur (a + b) T) a R = (X ++ R ++ T) ++ D := by
  have hl : (cur.take (a + b)).length = a + b := by rw [List.length_take]; omega
  refine ⟨cur.drop (a + b + T.length), ?_⟩
  unfold splice
  rw [List.take_append_of_le_length (by omega), List.take_take, Nat.min_eq_left (by omega), hX, hb, List.drop_left' hl]
  simp
end Pg
namespace Go.Proofs.Ytjkhdjonlppdoaa
open Go.RowKit Pg

set_option maxHeartbeats 2000000 in
set_option maxRecDepth 100000 in
theorem insertRt_any {l : List Rt} {v : Value} (W0 w : World) (ho : Own W0 w 29 4 v l.length (l.flatMap Rt.cells)) (k : Nat) (hk : k ≤ l.length) (hn : l.length ≤ 100000) (r : Rt) (gv : Nat) (hgv : Blk w gv 29 #[.int .u64 (hi r.x), .int .u64 (lo r.x), .int .i64 r.n, .int .i64 r.act]) (hne : v.ownBlock ≠ some gv) :
    Calls Try.prog 47 #[v, .int .i64 k, .slice (some ⟨gv, 0, none⟩) 1 1] w fun en w' => ∃ v', en = .returned v' ∧ Own W0 w' 29 4 v' (l.take k ++ r :: l.drop k).length ((l.take k ++ r :: l.drop k).flatMap Rt.cells) := by
  have hlen2 : (l.take k ++ r :: l.drop k).length = l.length + 1 := by simp; omega
  by_cases hkN : k = l.length
  · subst hkN
    have HO := Lib.hid ho
    have HB := Lib.hid hgv
    have hL : l.take l.length ++ r :: l.drop l.length = l ++ [r] := by simp
    rw [hL]
    obtain ⟨a, c, hv, hc, _⟩ := (Own.els Rt.cells_len ho).form
    subst hv
    clear ho hgv hL hlen2
    have q1 : ∀ u ∈ Rt.cells r, u.oneCell' = true := Rt.one r
    have q2 : l.length + 1 ≤ maxLen := by unfold maxLen; omega
    have q3 : (l.length + 1) * 32 ≤ 140737488355328 := by omega
    by_cases hcc : c = l.length
    · subst hcc
      go_enter Try.func47, Try.ntmps47
      go_wp2_with (first | (at_builtin; refine wpList_push rfl _ _ 22 rfl 29 (.agg #[.int .u64 0, .int .u64 0, .int .i64 0, .int .i64 0]) 4 32 Try.underlying22 info_route rfl (by omega) _ l.length (l.flatMap Rt.cells) rfl HO.out gv 1 1 (Rt.cells r) rfl rfl HB.out q1 q2 q3 ?_; intro v' w1 hown1))
      go_ret
      refine ⟨v', rfl, ?_⟩
      rw [List.length_append, List.flatMap_append]; simpa using hown1
    · go_enter Try.func47, Try.ntmps47
      go_wp2_with (first | (at_builtin; refine wpList_push rfl _ _ 22 rfl 29 (.agg #[.int .u64 0, .int .u64 0, .int .i64 0, .int .i64 0]) 4 32 Try.underlying22 info_route rfl (by omega) _ l.length (l.flatMap Rt.cells) rfl HO.out gv 1 1 (Rt.cells r) rfl rfl HB.out q1 q2 q3 ?_; intro v' w1 hown1))
      go_ret
      refine ⟨v', rfl, ?_⟩
      rw [List.length_append, List.flatMap_append]; simpa using hown1
  · have hkl : k < l.length := by omega
    obtain ⟨b, c, rfl, hb0, hblt, hnc, hcl, hfz⟩ := ho.form (by omega)
    have hbv : b ≠ gv := fun e => hne (by rw [e]; rfl)
    obtain ⟨cur, hrow, _, htk⟩ := ho.rowOf
    have hc63 : c ≤ 9223372036854775807 := hrow.cap
    obtain ⟨N, hN⟩ : ∃ N, N = l.length := ⟨_, rfl⟩
    obtain ⟨X, hX⟩ : ∃ X, X = (l.take k).flatMap Rt.cells := ⟨_, rfl⟩
    obtain ⟨T, hT⟩ : ∃ T, T = (l.drop k).flatMap Rt.cells := ⟨_, rfl⟩
    obtain ⟨R, hR⟩ : ∃ R, R = Rt.cells r := ⟨_, rfl⟩
    have hXl : X.length = k * 4 := by rw [hX, flat_len Rt.cells_len, List.length_take, Nat.min_eq_left (by omega)]
    have hTl : T.length = (N - k) * 4 := by rw [hT, flat_len Rt.cells_len, List.length_drop, hN]
    have hRl : R.length = 4 := by rw [hR]; rfl
    have hXT : l.flatMap Rt.cells = X ++ T := by rw [hX, hT, ← List.flatMap_append, List.take_append_drop]
    have hfin : (l.take k ++ r :: l.drop k).flatMap Rt.cells = X ++ R ++ T := by rw [hX, hR, hT]; simp
    have hget : ∀ j u, T[j]? = some u → cur[k * 4 + j]? = some u := by
      intro j u hj
      have h0 : j < (N - k) * 4 := by have := (List.getElem?_eq_some_iff.1 hj).1; rwa [hTl] at this
      have h1 : (cur.take (l.length * 4))[k * 4 + j]? = some u := by
        rw [htk, hXT, List.getElem?_append_right (by omega), hXl, Nat.add_sub_cancel_left]
        exact hj
      rw [List.getElem?_take] at h1
      split at h1
      · exact h1
      · cases h1
    have hcX : cur.take (k * 4) = X := by
      have : (cur.take (l.length * 4)).take (k * 4) = X := by rw [htk, hXT, List.take_left' hXl]
      rwa [List.take_take, Nat.min_eq_left (by omega)] at this
    have hTo : ∀ u ∈ T, u.oneCell' = true := fun u hu => by
      rw [hT] at hu
      obtain ⟨y, _, hy⟩ := List.mem_flatMap.1 hu
      exact Rt.one y u hy
    have hRo : ∀ u ∈ R, u.oneCell' = true := by rw [hR]; exact Rt.one r
    have hRg : ∀ W, Blk W gv 29 #[.int .u64 (hi r.x), .int .u64 (lo r.x), .int .i64 r.n, .int .i64 r.act] → ∀ j u, R[j]? = some u → W.cell? ((⟨gv, 0, none⟩ : Addr).add j) = some u := fun W hB j u hj => by
      refine cell_add ?_
      rw [Nat.zero_add, hB.cell j]
      rw [hR] at hj
      simpa [Rt.cells] using hj
    have hcurl : cur.length = c * 4 := hrow.len
    rw [hlen2, hfin]
    rw [← hN] at hnc hk hn ho hcl hkl ⊢
    have s1 := Lib.hid hTl
    have s2 := Lib.hid hget
    have s3 := Lib.hid hTo
    have s4 := Lib.hid hrow
    have s5 := Lib.hid hRl
    have s6 := Lib.hid hRo
    have s7 := Lib.hid hRg
    have s8 := Lib.hid hgv
    have s9 := Lib.hid hXl
    have s10 := Lib.hid hcX
    have s11 := Lib.hid hcurl
    have hkN2 : (k : Int) + 1 ≤ (N : Int) + 1 := by omega
    have hkN3 : (k : Int) ≤ (N : Int) := by omega
    have hkN4 : (k : Int) ≤ (N : Int) + 1 := by omega
    have hkc : k ≤ c := by omega
    have hkc1 : (k : Int) ≤ (c : Int) := by omega
    have hkt : ((k : Int) + 1).toNat = k + 1 := by omega
    have hNt : ((N : Int) + 1).toNat = N + 1 := by omega
    have mixed := mixed
    have hk0 : (0 : Int) ≤ (k : Int) + 1 := by omega
    have hk1 : (k : Int) ≤ (k : Int) + 1 := by omega
    have hke : ((k : Int) == (N : Int)) = false := by rw [beq_eq_false_iff_ne]; omega
    clear hT hX hXT hfin hTl hget hTo hrow hRl hRo hRg hgv hXl hcX hcl hfz ho hlen2 htk hN hR hcurl
    have hfl : ∀ Y : List Value, ((X ++ R ++ T) ++ Y).take ((N + 1) * 4) = X ++ R ++ T := fun Y => List.take_left' (by rw [List.length_append, List.length_append, s9.out, s5.out, s1.out]; omega)
    have hwr : IntKind.i64.wrap ((k : Int) + 1) = (k : Int) + 1 := by rw [IntKind.wrap_i64]; omega
    have hsz : (Try.prog.info? 29).map (·.size) = some 4 := by kernel_rfl
    by_cases hroom : N + 1 ≤ c
    · have hcj : ¬ c = k + 1 := by omega
      have hck : ¬ c = k := by omega
      have hd1 : decide ((c : Int) < (N : Int) + 1) = false := by simp; omega
      have hd2 : ¬ (c : Int) < (N : Int) + 1 := by omega
      have hr1 : (N : Int) + 1 ≤ (c : Int) := by omega
      have hr2 : (k : Int) + 1 ≤ (c : Int) := by omega
      have hov := overlaps_call (P := Try.prog) (tR := 4) (f := 64) Try.func64 (by kernel_rfl) (by kernel_rfl) (by kernel_rfl) (by kernel_rfl) Try.underlying22 4 (fun _ => by kernel_rfl)
        w gv b 0 ((k + 1) * 4) 1 1 (N - k) (c - (k + 1)) _ _ _ _ (Ne.symm hbv) s8.out s4.out.at_ (by simp [s11.out]; omega)
      go_enter Try.func47, Try.ntmps47
      go_wp2_with fail
      go_region_law_o (refine step_copy_of (s4.out.step (Kept.drew (Kept.refl _))) rfl (.tmp 73) (.tmp 76) 22 22 rfl Try.underlying22 hsz (some ⟨b, (k + 1) * 4, none⟩) (some ⟨b, k * 4, none⟩) (N - k) (c - (k + 1)) (N + 1 - k) (c - k) (k * 4 + 4) T (by simp [Act.eval, Act.put]) (by simp [Act.eval, Act.put]) (by rw [s1.out, show Nat.min (N + 1 - k) (N - k) = N - k from Nat.min_eq_right (by omega)]) (fun _ => ⟨by rw [show (k + 1) * 4 = k * 4 + 4 by omega], _, rfl, fun j u hj => cell_add (((s4.out.step (Kept.drew (Kept.refl _))).cell _).trans (s2.out j u hj))⟩) (by rw [s11.out, s1.out]; omega) s3.out ?_; intro u1 w1 hrow1 hoth1 hsz1)
      have HR1 := Lib.hid hrow1
      have HB1 := Lib.hid (show Blk w1 gv 29 #[.int .u64 (hi r.x), .int .u64 (lo r.x), .int .i64 r.n, .int .i64 r.act] from (hoth1 gv (Ne.symm hbv)).trans s8.out)
      clear hrow1 hoth1 hsz1
      go_wp2_with (first | (refine wpList_copy_of HR1.out rfl (.tmp 80) (.tmp 81) 22 22 rfl Try.underlying22 hsz (some ⟨b, k * 4, none⟩) (some ⟨gv, 0, none⟩) (N + 1 - k) (c - k) 1 1 (k * 4) R rfl rfl (by rw [s5.out, show Nat.min 1 (N + 1 - k) = 1 from Nat.min_eq_left (by omega)]) (fun _ => ⟨rfl, _, rfl, s7.out _ HB1.out⟩) (by rw [length_splice _ _ _ (by rw [s11.out, s1.out]; omega), s11.out, s5.out]; omega) s6.out ?_; intro u2 w2 hrow2 hoth2 hsz2))
      go_ret
      obtain ⟨D, hD⟩ := splice_ins2 cur X R T (k * 4) 4 s10.out (by rw [s11.out]; omega) s5.out
      have hown := hrow2.own (n := N + 1) hroom
      rw [hD, hfl] at hown
      exact ⟨_, rfl, hown⟩
    · have hck : ¬ c = k := by omega
      have hd1 : decide ((c : Int) < (N : Int) + 1) = true := by simp; omega
      have hd2 : (c : Int) < (N : Int) + 1 := by omega
      have hkM : k + (N + 1 - k) = N + 1 := by omega
      have s12 := Lib.hid hblt
      go_enter Try.func47, Try.ntmps47
      go_wp2_with (first | (refine wpList_zeros_of s4.out rfl (.tmp 34) (.tmp 39) 22 3 rfl .i64 .i64 Try.underlying22 Try.underlying3 (.agg #[.int .u64 0, .int .u64 0, .int .i64 0, .int .i64 0]) 32 info_route rfl (by omega) k (N + 1 - k) (by simp [Act.eval]) (by simp [Act.eval]; omega) hkc (by omega) (by omega) (by unfold maxLen; omega) (by omega) ?_; intro G w1 rest hG hk1 hrow1; rw [hkM] at hG ⊢; rw [s10.out] at hrow1; have HR1 := Lib.hid hrow1; have HK1 := Lib.hid hk1; clear hrow1 hk1; have HB1 := Lib.hid (s8.out.kept HK1.out); have hG0 : ¬ G = k := (by omega); have hG1 : ¬ G = k + 1 := (by omega); have hkG : k ≤ G := (by omega)) | (refine wpList_copy_of HR1.out rfl (.tmp 43) (.tmp 44) 22 22 rfl Try.underlying22 hsz (some ⟨w.heap.size, k * 4, none⟩) (some ⟨gv, 0, none⟩) (N + 1 - k) (G - k) 1 1 (k * 4) R rfl rfl (by rw [s5.out, show Nat.min 1 (N + 1 - k) = 1 from Nat.min_eq_left (by omega)]) (fun _ => ⟨rfl, _, rfl, s7.out _ HB1.out⟩) (by rw [HR1.out.len, s5.out]; omega) s6.out ?_; intro u2 w2 hrow2 hoth2 hsz2))
      have HR2 := Lib.hid hrow2
      have HC2 := Lib.hid (fun j => show w2.cell? ⟨b, j, none⟩ = cur[j]? from (World.cell?_of_block (a := ⟨b, j, none⟩) ((hoth2 b (by have := s12.out; omega)).trans (HK1.out.block b s12.out))).trans (s4.out.cell j))
      clear hrow2 hoth2 hsz2
      go_region_law_o (refine step_copy_of (HR2.out.step (Kept.drew (Kept.refl _))) rfl (.tmp 50) (.tmp 53) 22 22 rfl Try.underlying22 hsz (some ⟨w.heap.size, (k + 1) * 4, none⟩) (some ⟨b, k * 4, none⟩) (N - k) (G - (k + 1)) (N - k) (c - k) (k * 4 + 4) T (by simp [Act.eval, Act.put]) (by simp [Act.eval, Act.put]) (by rw [s1.out, show Nat.min (N - k) (N - k) = N - k from Nat.min_self _]) (fun _ => ⟨by rw [show (k + 1) * 4 = k * 4 + 4 by omega], _, rfl, fun j u hj => cell_add ((HC2.out _).trans (s2.out j u hj))⟩) (by rw [HR2.out.len, s1.out]; omega) s3.out ?_; intro u3 w3 hrow3 hoth3 hsz3)
      have HR3 := Lib.hid hrow3
      clear hrow3 hoth3 hsz3
      go_wp2_with fail
      go_ret
      obtain ⟨D, hD⟩ := splice_ins1 X R T rest (k * 4) 4 s9.out s5.out
      have hown := HR3.out.own (n := N + 1) hG
      rw [hD, hfl] at hown
      exact ⟨_, rfl, hown⟩
end Go.Proofs.Ytjkhdjonlppdoaa
namespace Go.Proofs.Ytjkhdjonlppdoaa
open Go.RowKit Pg

set_option maxHeartbeats 2000000 in
set_option maxRecDepth 100000 in
theorem ribput_any {l : List Rt} {v : Value} (r : Rt) (w : World) (hl : Els w v 4 Rt.cells l) (hT : Tab l) (hn : l.length ≤ 1000) : Calls Try.prog 20 #[v, rv r] w (RetEls 29 4 Rt.cells (putR r l) w) := by
  obtain ⟨c, is, hat⟩ := isAt_exists hT r.x r.n
  have hp := hat.put hT
  have hcle := hat.le
  have hb := Lib.hid (fun W (h' : Els W v 4 Rt.cells l) => at_any r.x r.n c is W h' hn hat)
  have hcl := Lib.hid (fun W (h' : Els W v 4 Rt.cells l) => cloneRt_any W h' (by omega))
  have HE := Lib.hid hl
  obtain ⟨ad, cap, rfl, hcap, he⟩ := hl.form
  cases is
  · simp only [Bool.false_eq_true, if_false] at hp
    rw [hp]
    have hin := Lib.hid (fun W0 W u (h : Own W0 W 29 4 u l.length (l.flatMap Rt.cells)) gv hB hne => insertRt_any W0 W h c hcle (by omega) r gv hB hne)
    clear hl he hat hT hp
    go_enter Try.func20, Try.ntmps20
    go_wp2_with fail
    refine (hb.out _ (HE.out.alloc _)).mono ?_
    rintro e w1 ⟨rfl, q1, rfl⟩
    go_wp2_with fail
    have HB := Lib.hid (show Blk (ext (w.alloc (.cells #[.int .u64 (hi r.x), .int .u64 (lo r.x), .int .i64 r.n, .int .i64 r.act] 29)) q1) w.heap.size 29 #[.int .u64 (hi r.x), .int .u64 (lo r.x), .int .i64 r.n, .int .i64 r.act] from (Blk.new' w _ _ rfl).ext _)
    refine (hcl.out _ ((HE.out.alloc _).ext _)).mono ?_
    rintro e w2 ⟨v2, rfl, ho2⟩
    obtain ⟨p0, p1, p2, p3, pl⟩ := Blk.four (HB.out.kept ho2.1)
    have HO2 := Lib.hid ho2
    clear ho2
    go_wp2_with fail
    refine (hin.out _ _ _ (HO2.out.alloc _) _ (Blk.new' _ _ _ rfl) (fun e => by have := (HO2.out.2.lt _ e).2; omega)).mono ?_
    rintro e w3 ⟨v3, rfl, ho3⟩
    have HO3 := Lib.hid ho3
    clear ho3
    go_wp2_with fail
    go_ret
    exact RetEls.mk (Kept.ext ((Kept.refl w).alloc _) _) HO3.out
  · obtain ⟨hc, _⟩ := hat.found.1 rfl
    simp only [if_true] at hp
    rw [hp]
    have hci : (c : Int) < (l.length : Int) := by omega
    have hc0 : (0 : Int) ≤ c := by omega
    have HSF := Lib.hid (setAll_flat Rt.cells_len l c hc r)
    have HLs := Lib.hid (show (l.set c r).length = l.length by simp)
    clear hl he hat hT hp
    go_enter Try.func20, Try.ntmps20
    go_wp2_with fail
    refine (hb.out _ (HE.out.alloc _)).mono ?_
    rintro e w1 ⟨rfl, q1, rfl⟩
    go_wp2_with fail
    have HB := Lib.hid (show Blk (ext (w.alloc (.cells #[.int .u64 (hi r.x), .int .u64 (lo r.x), .int .i64 r.n, .int .i64 r.act] 29)) q1) w.heap.size 29 #[.int .u64 (hi r.x), .int .u64 (lo r.x), .int .i64 r.n, .int .i64 r.act] from (Blk.new' w _ _ rfl).ext _)
    refine (hcl.out _ ((HE.out.alloc _).ext _)).mono ?_
    rintro e w2 ⟨v2, rfl, ho2⟩
    obtain ⟨b, c2, rfl, hb0, hblt, hnc, hclx, hfzx⟩ := ho2.form (by omega)
    clear hclx hfzx
    obtain ⟨p0, p1, p2, p3, pl⟩ := Blk.four (HB.out.kept ho2.1)
    have hel := Own.els Rt.cells_len ho2
    obtain ⟨hbz, hcellz⟩ := (hel).at2 (c) hc
    obtain ⟨ez, heez⟩ : ∃ e, (l)[c]'hc = e := ⟨_, rfl⟩
    rw [heez] at hcellz
    have cz0 : w2.cell? ⟨b, c * 4, none⟩ = some (.int .u64 (hi ez.x)) := by have h := hcellz 0 (by omega); rw [Nat.zero_add] at h; exact h
    have cz1 : w2.cell? ⟨b, c * 4 + 1, none⟩ = some (.int .u64 (lo ez.x)) := by have h := hcellz 1 (by omega); rw [Nat.zero_add] at h; exact h
    have cz2 : w2.cell? ⟨b, c * 4 + 2, none⟩ = some (.int .i64 ez.n) := by have h := hcellz 2 (by omega); rw [Nat.zero_add] at h; exact h
    have cz3 : w2.cell? ⟨b, c * 4 + 3, none⟩ = some (.int .i64 ez.act) := by have h := hcellz 3 (by omega); rw [Nat.zero_add] at h; exact h
    have Heez := Lib.hid heez
    clear hcellz heez
    have hfz := fun k => ho2.2.frozenAt k
    have HO2 := Lib.hid ho2
    have HB0 := Lib.hid hb0
    clear ho2 hel Heez hb0
    go_wp2_with fail
    go_ret
    refine RetEls.mk (Kept.ext ((Kept.refl w).alloc (.cells #[.int .u64 (hi r.x), .int .u64 (lo r.x), .int .i64 r.n, .int .i64 r.act] 29)) q1) ?_
    rw [← HSF.out, HLs.out]
    exact (Own.stored (Own.stored (Own.stored (Own.stored HO2.out HB0.out (c * 4 + 0) _) HB0.out (c * 4 + 1) _) HB0.out (c * 4 + 2) _) HB0.out (c * 4 + 3) _)
end Go.Proofs.Ytjkhdjonlppdoaa
