/- Rows with spare cells behind them: append with room, append of zeros, copy, slices.overlaps. No program. -/
import Derived.Test.YtjkhdjonlppdoaaEls2
import Derived.Laws.CopyOwn
import Derived.Lib.Overlaps
import Derived.Lib.AppendZerosOnto
namespace Pg
open Go Go.RowKit

structure RowOf (W0 w : World) (e : TypeId) (size g c : Nat) (cur : List Value) : Prop where
  kept : Kept W0 w
  ge : W0.heap.size ≤ g
  at_ : w.heap[g]? = some (.cells cur.toArray e (0, 0))
  cap : c ≤ maxLen
  len : cur.length = c * size
section
variable {W0 w w' : World} {e : TypeId} {size g n c : Nat} {cur xs : List Value}
theorem Own.rowOf (h : Own W0 w e size (.slice (some ⟨g, 0, none⟩) n c) n xs) : ∃ cur, RowOf W0 w e size g c cur ∧ n ≤ c ∧ cur.take (n * size) = xs := by
  obtain ⟨cur, hg, hh, hnc, hm, hcs, htk⟩ := h.block
  exact ⟨cur.toList, ⟨h.1, hg, by simpa using hh, hm, by simpa using hcs⟩, hnc, htk⟩
theorem RowOf.own (h : RowOf W0 w e size g c cur) (hn : n ≤ c) : Own W0 w e size (.slice (some ⟨g, 0, none⟩) n c) n (cur.take (n * size)) :=
  ⟨h.kept, by rw [List.length_take, h.len, Nat.min_eq_left (Nat.mul_le_mul_right size hn)], .inr ⟨g, c, cur.toArray, rfl, h.ge, h.at_, hn, h.cap, by simpa using h.len, by simp⟩⟩
theorem RowOf.lt (h : RowOf W0 w e size g c cur) : g < w.heap.size := (Array.getElem?_eq_some_iff.1 h.at_).1
theorem RowOf.step (h : RowOf W0 w e size g c cur) (hk : Kept w w') : RowOf W0 w' e size g c cur :=
  ⟨h.kept.trans hk, h.ge, by rw [hk.block g h.lt]; exact h.at_, h.cap, h.len⟩
theorem RowOf.cell (h : RowOf W0 w e size g c cur) (j : Nat) : w.cell? ⟨g, j, none⟩ = cur[j]? := by
  rw [cell_of_row w g j cur.toArray e (0, 0) h.at_]; simp
theorem RowOf.spliced (h : RowOf W0 w e size g c cur) (off : Nat) (cs : List Value) (hfit : off + cs.length ≤ cur.length) :
    RowOf W0 (w.setRow g (splice cur off cs).toArray) e size g c (splice cur off cs) :=
  ⟨Kept.setRow h.kept h.ge _, h.ge, setRow_heap w g _ _ e _ h.at_, h.cap, by rw [length_splice _ _ _ hfit]; exact h.len⟩
end
theorem cell_add {w : World} {g o j : Nat} {u : Value} (h : w.cell? ⟨g, o + j, none⟩ = some u) : w.cell? ((⟨g, o, none⟩ : Addr).add j) = some u := by
  unfold Addr.add
  split
  · rename_i h0; subst h0; exact h
  · simpa using h
section
variable {P : Program}
/-- 'copy(d, s)', d in a row of the call's own. -/
theorem run_copy_of {W0 w : World} {e : TypeId} {size g c : Nat} {cur : List Value} (h : RowOf W0 w e size g c cur) (dT sT ty : TypeId) (hu : P.underlying dT = some (.slice e)) (hs : (P.info? e).map (·.size) = some size)
    (dp sp : Option Addr) (dLen dCap sLen sCap off : Nat) (cs : List Value) (hn : cs.length = Nat.min sLen dLen * size)
    (hpos : 0 < cs.length → dp = some ⟨g, off, none⟩ ∧ ∃ ad, sp = some ad ∧ ∀ j v, cs[j]? = some v → w.cell? (ad.add j) = some v)
    (hfit : off + cs.length ≤ cur.length) (h1 : ∀ v ∈ cs, v.oneCell' = true) :
    ∃ u w', (Builtin.copy_ #[dT, sT] ty #[.slice dp dLen dCap, .slice sp sLen sCap]).run P w = .ok u w' ∧ RowOf W0 w' e size g c (splice cur off cs) ∧ (∀ k, k ≠ g → w'.heap[k]? = w.heap[k]?) ∧ w'.heap.size = w.heap.size := by
  obtain ⟨i, hq, hi⟩ : ∃ i, P.info? e = some i ∧ i.size = size := by
    cases hq : P.info? e with
    | none => simp [hq] at hs
    | some i => exact ⟨i, rfl, by simpa [hq] using hs⟩
  by_cases h0 : cs.length = 0
  · obtain rfl : cs = [] := List.eq_nil_of_length_eq_zero h0
    have hm : Nat.min sLen dLen * size = 0 := by simpa using hn.symm
    refine ⟨goInt (Nat.min sLen dLen), w, ?_, by simpa [splice] using h, fun _ _ => rfl, rfl⟩
    have hm2 := hm
    simp only [Nat.mul_eq_zero] at hm2
    cases sp with
    | none =>
      cases dp with
      | none => rcases hm2 with hm2 | hm2 <;> simp [Builtin.copy_, run_underlying hu, Builtin.lenOf, Builtin.firstCells, Go.sizeOf, Go.typeInfo, hq, hm2] <;> rfl
      | some dp => rcases hm2 with hm2 | hm2 <;> simp [Builtin.copy_, run_underlying hu, Builtin.lenOf, Builtin.firstCells, Go.sizeOf, Go.typeInfo, hq, hm2, storeCells] <;> rfl
    | some sp =>
      cases dp with
      | none => rcases hm2 with hm2 | hm2 <;> simp [Builtin.copy_, run_underlying hu, Builtin.lenOf, Builtin.firstCells, Go.sizeOf, Go.typeInfo, hq, hi, hm2, loadCells] <;> rfl
      | some dp => rcases hm2 with hm2 | hm2 <;> simp [Builtin.copy_, run_underlying hu, Builtin.lenOf, Builtin.firstCells, Go.sizeOf, Go.typeInfo, hq, hi, hm2] <;> rfl
  · obtain ⟨rfl, ad, rfl, hsrc⟩ := hpos (by omega)
    have hld := run_loadCells_list (P := P) w ad cs hsrc
    have hst := run_storeCells_at P g off e cs 0 cur.toArray w h.at_ (by simpa using hfit) h1
    rw [hn] at hld
    refine ⟨goInt (Nat.min sLen dLen), _, ?_, h.spliced off cs hfit, fun k hk => setRow_other w g k _ hk, by simp [World.setRow]⟩

    simp only [Nat.add_zero] at hst
    simp [Builtin.copy_, run_underlying hu, Builtin.lenOf, Builtin.firstCells, Go.sizeOf, Go.typeInfo, hq, hi, hld, hst, splice]
theorem wpList_copy_of {ops : Array Oper} {rest : List Oper} {o : Oper} {a : Act} {Q : Exit → Act → World → Prop} {W0 w : World} {e : TypeId} {size g c : Nat} {cur : List Value} (h : RowOf W0 w e size g c cur) (hgd : o.guard = none) (d s : Operand) (dT sT : TypeId)
    (ho : o.op = .call { callee := .builtin .copy, args := #[d, s], argTypes := #[dT, sT] }) (hu : P.underlying dT = some (.slice e)) (hs : (P.info? e).map (·.size) = some size)
    (dp sp : Option Addr) (dLen dCap sLen sCap off : Nat) (cs : List Value) (hd : a.eval d = .slice dp dLen dCap) (hx : a.eval s = .slice sp sLen sCap) (hn : cs.length = Nat.min sLen dLen * size)
    (hpos : 0 < cs.length → dp = some ⟨g, off, none⟩ ∧ ∃ ad, sp = some ad ∧ ∀ j v, cs[j]? = some v → w.cell? (ad.add j) = some v)
    (hfit : off + cs.length ≤ cur.length) (h1 : ∀ v ∈ cs, v.oneCell' = true)
    (hK : ∀ u w', RowOf W0 w' e size g c (splice cur off cs) → (∀ k, k ≠ g → w'.heap[k]? = w.heap[k]?) → w'.heap.size = w.heap.size → wpList P ops Q rest (a.put o.dst u) w') :
    wpList P ops Q (o :: rest) a w := by
  refine wpList_plain hgd fun K hK2 => ?_
  obtain ⟨u, w', hr, h2, h3, h4⟩ := run_copy_of h dT sT o.type hu hs dp sp dLen dCap sLen sCap off cs hn hpos hfit h1
  unfold Oper.wp
  simp [execOp, ho, resolve, invoke, builtin, hd, hx, hr, Result.andThen]
  exact hK2 _ _ (hK u w' h2 h3 h4)
theorem step_copy_of {ops : Array Oper} {o : Oper} {a : Act} {K : Act → World → Prop} {Q : Exit → Act → World → Prop} {E : Prop} {W0 w : World} {e : TypeId} {size g c : Nat} {cur : List Value} (h : RowOf W0 w e size g c cur) (hgd : o.guard = none) (d s : Operand) (dT sT : TypeId)
    (ho : o.op = .call { callee := .builtin .copy, args := #[d, s], argTypes := #[dT, sT] }) (hu : P.underlying dT = some (.slice e)) (hs : (P.info? e).map (·.size) = some size)
    (dp sp : Option Addr) (dLen dCap sLen sCap off : Nat) (cs : List Value) (hd : a.eval d = .slice dp dLen dCap) (hx : a.eval s = .slice sp sLen sCap) (hn : cs.length = Nat.min sLen dLen * size)
    (hpos : 0 < cs.length → dp = some ⟨g, off, none⟩ ∧ ∃ ad, sp = some ad ∧ ∀ j v, cs[j]? = some v → w.cell? (ad.add j) = some v)
    (hfit : off + cs.length ≤ cur.length) (h1 : ∀ v ∈ cs, v.oneCell' = true)
    (hK : ∀ u w', RowOf W0 w' e size g c (splice cur off cs) → (∀ k, k ≠ g → w'.heap[k]? = w.heap[k]?) → w'.heap.size = w.heap.size → K (a.put o.dst u) w') :
    if Region.wanted o (yielded ops a.tmps) = true then Oper.wp P o a w K Q else E := by
  have hw : Region.wanted o (yielded ops a.tmps) = true := by simp [Region.wanted, hgd]
  rw [if_pos hw]
  obtain ⟨u, w', hr, h2, h3, h4⟩ := run_copy_of h dT sT o.type hu hs dp sp dLen dCap sLen sCap off cs hn hpos hfit h1
  unfold Oper.wp
  simp [execOp, ho, resolve, invoke, builtin, hd, hx, hr, Result.andThen]
  exact hK u w' h2 h3 h4
/-- 'append(s, x...)' where there is room, s the head of a row of the call's own; x may lie in the same row. -/
theorem step_append_of {ops : Array Oper} {o : Oper} {a : Act} {K : Act → World → Prop} {Q : Exit → Act → World → Prop} {E : Prop} {W0 w : World} {e : TypeId} {size g c : Nat} {cur : List Value} (h : RowOf W0 w e size g c cur) (hgd : o.guard = none) (s x : Operand) (t : TypeId)
    (ho : o.op = .call { callee := .builtin .append, args := #[s, x], argTypes := #[t, t] }) (hu : P.underlying t = some (.slice e)) (hs : (P.info? e).map (·.size) = some size)
    (i m cc : Nat) (ad : Addr) (news : List Value) (hd : a.eval s = .slice (some ⟨g, 0, none⟩) i c) (hx : a.eval x = .slice (some ad) m cc) (hn : news.length = m * size) (hc : ∀ j v, news[j]? = some v → w.cell? (ad.add j) = some v)
    (hroom : i + m ≤ c) (h1 : ∀ v ∈ news, v.oneCell' = true)
    (hK : ∀ w', RowOf W0 w' e size g c (splice cur (i * size) news) → K (a.put o.dst (.slice (some ⟨g, 0, none⟩) (i + m) c)) w') :
    if Region.wanted o (yielded ops a.tmps) = true then Oper.wp P o a w K Q else E := by
  have hw : Region.wanted o (yielded ops a.tmps) = true := by simp [Region.wanted, hgd]
  rw [if_pos hw]
  obtain ⟨q, hq, hi⟩ : ∃ q, P.info? e = some q ∧ q.size = size := by
    cases hq : P.info? e with
    | none => simp [hq] at hs
    | some q => exact ⟨q, rfl, by simpa [hq] using hs⟩
  subst hi
  have hfit : i * q.size + news.length ≤ cur.length := by rw [hn, h.len, ← Nat.add_mul]; exact Nat.mul_le_mul_right _ hroom
  have hfc := run_firstCells_some (P := P) w q.size m ad m cc news hn hc
  have hst := run_storeCells_at P g (i * q.size) e news 0 cur.toArray w h.at_ (by simpa using hfit) h1
  simp only [Nat.add_zero] at hst
  have hr : (Builtin.append_ #[t, t] o.type #[.slice (some ⟨g, 0, none⟩) i c, .slice (some ad) m cc]).run P w = .ok (.slice (some ⟨g, 0, none⟩) (i + m) c) (w.setRow g (splice cur (i * q.size) news).toArray) := by
    simp [Builtin.append_, run_underlying hu, Go.sizeOf, Go.typeInfo, hq, Builtin.lenOf, hroom, hfc, Addr.add_lit, hst, splice]
  unfold Oper.wp
  simp [execOp, ho, resolve, invoke, builtin, hd, hx, hr, Result.andThen]
  exact hK _ (h.spliced _ _ hfit)
/-- 'append(s, make([]T, k)...)' where there is no room, s the head of a row of the call's own. -/
theorem wpList_zeros_of {ops : Array Oper} {rest : List Oper} {o : Oper} {a : Act} {Q : Exit → Act → World → Prop} {W0 w : World} {e : TypeId} {size g c : Nat} {cur : List Value} (h : RowOf W0 w e size g c cur) (hgd : o.guard = none) (s x : Operand) (t tn : TypeId)
    (ho : o.op = .call { callee := .builtin .append, args := #[s, x], argTypes := #[t, tn] }) (kq kn : IntKind) (hu : P.underlying t = some (.slice e)) (hun : P.underlying tn = some (.int kn)) (z : Value) (bytes : Nat)
    (hinfo : (P.info? e).map (fun i => (i.zero, i.size, i.bytes)) = some (some z, size, bytes)) (hzs : z.cells.size = size) (hsz : 0 < size)
    (i k : Nat) (hd : a.eval s = .slice (some ⟨g, 0, none⟩) i c) (hx : a.eval x = .int kq k) (hic : i ≤ c) (h0 : 0 < k) (hg : c < i + k) (h63 : i + k ≤ maxLen) (hbytes : (i + k) * bytes ≤ 140737488355328)
    (hK : ∀ G w' rest', i + k ≤ G → Kept w w' → RowOf W0 w' e size w.heap.size G (cur.take (i * size) ++ rest') → wpList P ops Q rest (a.put o.dst (.slice (some ⟨w.heap.size, 0, none⟩) (i + k) G)) w') :
    wpList P ops Q (o :: rest) a w := by
  refine wpList_plain hgd fun K hK2 => ?_
  obtain ⟨q, hq, hz, hi, hby⟩ := parts_of hinfo
  subst hi; subst hby
  have hlen : (cur.take (i * q.size)).length = i * q.size := by rw [List.length_take, h.len, Nat.min_eq_left (Nat.mul_le_mul_right _ hic)]
  have hold := run_firstCells_some (P := P) w.drew q.size i ⟨g, 0, none⟩ i c (cur.take (i * q.size)) hlen (fun j v hj => by
    have hj2 : cur[j]? = some v := by
      rw [List.getElem?_take] at hj
      split at hj
      · exact hj
      · cases hj
    exact cell_add (by rw [Nat.zero_add]; exact (h.cell j).trans hj2))
  have hsmall : ((i + k : Nat) : Int) ≤ 9223372036854775807 := by unfold maxLen at h63; omega
  have hr := Lib.run_append_grow_zeros w t tn o.type e q z kq kn hu hun hq hz (some ⟨g, 0, none⟩) i c (cur.take (i * q.size)) hold k h0 hsz hg hsmall (by
    have : k * q.bytes ≤ (i + k) * q.bytes := Nat.mul_le_mul_right _ (by omega)
    omega) (growslice_fits hg hbytes)
  obtain ⟨G, hG⟩ : ∃ G, G = grownCap w (i + k) c e := ⟨_, rfl⟩
  have hge : i + k ≤ G := by rw [hG]; exact grownCap_ge w _ _ _
  have hGm : G ≤ maxLen := by rw [hG]; exact grownCap_le_maxLen w _ _ _ h63
  rw [← hG] at hr
  unfold Oper.wp
  simp [execOp, ho, resolve, invoke, builtin, hd, hx, hr, Result.andThen]
  refine hK2 _ _ (hK G _ ((Builtin.zeroCells z.cells k).toList ++ (Builtin.zeroCells z.cells (G - (i + k))).toList) hge ((Kept.refl w).drew.alloc _) ⟨(h.kept.drew).alloc _, Nat.le_trans (by exact h.kept.size) (Nat.le_refl _), ?_, hGm, ?_⟩)
  · have := heap_alloc_new w.drew (.cells ((cur.take (i * q.size)).toArray ++ Builtin.zeroCells z.cells k ++ Builtin.zeroCells z.cells (G - (i + k))) e)
    rw [show ((cur.take (i * q.size) ++ ((Builtin.zeroCells z.cells k).toList ++ (Builtin.zeroCells z.cells (G - (i + k))).toList)).toArray) = (cur.take (i * q.size)).toArray ++ Builtin.zeroCells z.cells k ++ Builtin.zeroCells z.cells (G - (i + k)) by apply Array.toList_inj.1; simp]
    simpa using this
  · rw [List.length_append, hlen, List.length_append, Array.length_toList, Array.length_toList, size_zeroCells, size_zeroCells, hzs, ← Nat.add_mul, ← Nat.add_mul]
    congr 1; omega
/-- slices.overlaps at two rows of the call's own. -/
theorem overlaps_call {f : FuncId} {fn : Func} {tS tR e : TypeId} (hf : P.funcs[f]? = some fn) (hname : (fn.name == "runtime.NumGoroutine") = false) (hb : fn.body.isNone = true) (hnx : Extern.findNext fn = none)
    (he : Extern.find fn = some (Extern.SlicesOverlaps.overlaps #[tS, tS] #[tR])) (ht : P.underlying tS = some (.slice e)) (size : Nat) (hz : ∀ w, (Go.sizeOf e).run P w = .ok size w)
    (w : World) (vb g oa ob la ca lb cb : Nat) (cA cB : Array Value) (tA tB : TypeId) (hne : vb ≠ g) (hA : w.heap[vb]? = some (.cells cA tA (0, 0))) (hB : w.heap[g]? = some (.cells cB tB (0, 0))) (h0 : cB.size ≠ 0) :
    (callFunc f #[.slice (some ⟨vb, oa, none⟩) la ca, .slice (some ⟨g, ob, none⟩) lb cb]).run P w = .ok (.value (.bool false)) w := by
  rw [run_callFunc_extern hf hname hb hnx he,
    Lib.run_overlaps_apart w tS tR e ht size hz ⟨vb, oa, none⟩ ⟨g, ob, none⟩ la ca lb cb hne tA tB cA.size cB.size (by simp [World.shape?, hA]) (by simp [World.shape?, hB]) h0 (by simp [World.frozen?, hA]) (by simp [World.frozen?, hA])]
  rfl
end
end Pg
