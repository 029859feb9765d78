/- slices.Delete of one route: the contract over the program. -/
import Derived.Test.YtdoghlncoinhoaaSlRt
import Derived.Test.YtdoghlncoinhoaaRow
import Derived.Test.YtdoghlncoinhoaaAddr
import Derived.Shelf.RegionOpenPlain
namespace Go.Proofs.Ytdoghlncoinhoaa
open Go.RowKit Pg

set_option maxHeartbeats 2000000 in
set_option maxRecDepth 100000 in
theorem deleteRt_any {l : List Rt} {v : Value} (W0 w : World) (ho : Own W0 w 48 4 v l.length (l.flatMap Rt.cells)) (k : Nat) (hk : k < l.length) (hn : l.length ≤ 100000) :
    Calls Try.prog 48 #[v, .int .i64 k, .int .i64 ((k : Int) + 1)] w fun en w' => ∃ v', en = .returned v' ∧ Own W0 w' 48 4 v' (l.eraseIdx k).length ((l.eraseIdx k).flatMap Rt.cells) := by
  obtain ⟨b, c, rfl, hb0, hblt, hnc, hcl, hfz⟩ := ho.form (by omega)
  obtain ⟨cur, hrow, _, htk⟩ := ho.rowOf
  have hc63 : c ≤ 9223372036854775807 := hrow.cap
  obtain ⟨N, hN⟩ : ∃ N, N = l.length := ⟨_, rfl⟩
  obtain ⟨news, hnews⟩ : ∃ news, news = (l.drop (k + 1)).flatMap Rt.cells := ⟨_, rfl⟩
  have hlen : news.length = (N - (k + 1)) * 4 := by rw [hnews, flat_len Rt.cells_len, List.length_drop, hN]
  have hget : ∀ j u, news[j]? = some u → w.cell? ⟨b, (k + 1) * 4 + j, none⟩ = some u := by
    intro j u hj
    have h1 : (l.flatMap Rt.cells)[(k + 1) * 4 + j]? = some u := by
      rw [← List.getElem?_drop]
      have : l.flatMap Rt.cells = (l.take (k + 1)).flatMap Rt.cells ++ news := by rw [hnews, ← List.flatMap_append, List.take_append_drop]
      rw [this, List.drop_left' (by rw [flat_len Rt.cells_len, List.length_take, Nat.min_eq_left (by omega)])]
      exact hj
    rw [hcl _ (by have := (List.getElem?_eq_some_iff.1 h1).1; rwa [flat_len Rt.cells_len] at this)]
    exact h1
  have hone : ∀ u ∈ news, u.oneCell' = true := fun u hu => by
    rw [hnews] at hu
    obtain ⟨y, _, hy⟩ := List.mem_flatMap.1 hu
    exact Rt.one y u hy
  have hfin : ((splice cur (k * 4) news).take ((N - 1) * 4)) = (l.eraseIdx k).flatMap Rt.cells := by
    have h1 : cur.take (k * 4) = (l.take k).flatMap Rt.cells := by
      rw [← flat_take Rt.cells_len l k (by omega), ← htk, List.take_take, Nat.min_eq_left (by omega)]
    unfold splice
    rw [h1, ← List.append_assoc, List.take_append_of_le_length (by rw [List.length_append, flat_len Rt.cells_len, List.length_take, hlen, Nat.min_eq_left (by omega)]; omega), List.take_of_length_le (by rw [List.length_append, flat_len Rt.cells_len, List.length_take, hlen, Nat.min_eq_left (by omega)]; omega), hnews, ← List.flatMap_append, List.eraseIdx_eq_take_drop_succ]
  have hel : (l.eraseIdx k).length = N - 1 := by rw [List.length_eraseIdx_of_lt hk, hN]
  rw [← hN] at hnc hk hn ho hcl ⊢
  rw [hel, ← hfin]
  have s1 := Lib.hid hlen
  have s2 := Lib.hid hget
  have s3 := Lib.hid hone
  have s4 := Lib.hid hrow
  have hkN : (k : Int) + 1 ≤ (N : Int) := by omega
  have hkc : k + 1 ≤ c := by omega
  have hkc2 : k ≤ c := by omega
  have hkt : ((k : Int) + 1).toNat = k + 1 := by omega
  have mixed := mixed
  have hk0 : (0 : Int) ≤ (k : Int) + 1 := by omega
  have hk1 : (k : Int) ≤ (k : Int) + 1 := by omega
  clear hnews hfin hel hN hlen hget hone hrow htk hcl hfz ho hblt hb0
  by_cases hcj : c = k + 1
  · subst hcj
    go_enter Try.func48, Try.ntmps48
    go_wp2_with fail
    go_region_law_o (refine step_append_of (s4.out.step (Kept.drew (Kept.refl _))) rfl (.tmp 22) (.tmp 25) 22 rfl Try.underlying22 (by kernel_rfl) k 0 0 ⟨b, 0, none⟩ news (by simp [Act.eval, Act.put]) (by simp [Act.eval, Act.put]) (by rw [s1.out]; omega) (fun j u hj => by
      have h1 := (List.getElem?_eq_some_iff.1 hj).1
      rw [s1.out] at h1; omega) (by omega) s3.out ?_; intro w1 hrow1)
    have HO1 := Lib.hid (hrow1.own (n := N) hnc)
    clear hrow1
    go_wp2_with (first | (refine wpList_clear_own rfl (.tmp 31) 22 rfl 48 (.agg #[.int .u64 0, .int .u64 0, .int .i64 0, .int .i64 0]) 4 Try.underlying22 (fun _ => by kernel_rfl) rfl (by simp [Value.cells, Value.oneCell']) b N (k + 1) k (N - k) 1 _ rfl HO1.out (by omega) ?_; intro w2 hown2))
    go_ret
    rw [List.take_take, Nat.min_eq_left (by omega), show k = N - 1 by omega] at hown2
    exact ⟨_, rfl, by rw [show k = N - 1 by omega]; exact hown2⟩
  · go_enter Try.func48, Try.ntmps48
    go_wp2_with fail
    go_region_law_o (refine step_append_of (s4.out.step (Kept.drew (Kept.refl _))) rfl (.tmp 22) (.tmp 25) 22 rfl Try.underlying22 (by kernel_rfl) k (N - (k + 1)) (c - (k + 1)) ⟨b, (k + 1) * 4, none⟩ news (by simp [Act.eval, Act.put]) (by simp [Act.eval, Act.put]) s1.out (fun j u hj => cell_add (s2.out j u hj)) (by omega) s3.out ?_; intro w1 hrow1)
    have HO1 := Lib.hid (hrow1.own (n := N) hnc)
    clear hrow1
    go_wp2_with (first | (refine wpList_clear_own rfl (.tmp 31) 22 rfl 48 (.agg #[.int .u64 0, .int .u64 0, .int .i64 0, .int .i64 0]) 4 Try.underlying22 (fun _ => by kernel_rfl) rfl (by simp [Value.cells, Value.oneCell']) b N (c) (k + (N - (k + 1))) (N - (k + (N - (k + 1)))) (c - (k + (N - (k + 1)))) _ rfl HO1.out (by omega) ?_; intro w2 hown2))
    go_ret
    rw [List.take_take, Nat.min_eq_left (by omega), show k + (N - (k + 1)) = N - 1 by omega] at hown2
    exact ⟨_, rfl, by rw [show k + (N - (k + 1)) = N - 1 by omega]; exact hown2⟩
end Go.Proofs.Ytdoghlncoinhoaa
