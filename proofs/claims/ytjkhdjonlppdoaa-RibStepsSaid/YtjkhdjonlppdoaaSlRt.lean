/- Package slices' functions at elements of rib.Route: the contracts over the program. -/
import Derived.Test.YtjkhdjonlppdoaaInfo
import Derived.Shelf.Abstract
namespace Go.Proofs.Ytjkhdjonlppdoaa
open Go.RowKit Pg

/-- A function value on elements hands back p, in every later world. -/
def GivesRt (g : FuncId) (lb : Array Value) (p : Rt → Bool) (w : World) : Prop := ∀ (W : World) (e : Rt), Kept w W → Calls Try.prog g (#[rv e] ++ lb) W (Ret (.bool (p e)) W)
theorem idx_hitRt (p : Rt → Bool) (l : List Rt) (k : Nat) (h : k < l.length) (hp : p l[k] = true) (hn : ∀ i (h2 : i < l.length), i < k → p l[i] = false) : idxI p l = (k : Int) := idxI_hit p l k h hp hn
set_option maxHeartbeats 1000000 in
set_option maxRecDepth 100000 in
theorem indexFuncRt_any {l : List Rt} {v : Value} (p : Rt → Bool) (g : FuncId) (lb : Array Value) (w : World) (hl : Els w v 4 Rt.cells l) (hn : l.length ≤ 100000) (eg : ∀ args w, (callFunc g args).run Try.prog w = .ok (.enter g args) w)
    (hp : GivesRt g lb p w) : Calls Try.prog 69 #[v, .func (.func g) #[] lb] w (Ret (.int .i64 (idxI p l)) w) := by
  obtain ⟨a, c, rfl, hc, he⟩ := hl.form
  have HE := Lib.hid he
  have HP := Lib.hid hp
  clear hl he hp
  go_enter Try.func69, Try.ntmps69
  go_wp2_with fail
  go_loopw [5, 8] (fun _ vk wr => ∃ k : Nat, k ≤ l.length ∧ vk = .int .i64 k ∧ Kept w wr ∧ ∀ i (h : i < l.length), i < k → p l[i] = false) (fun _ k _ => l.length - (intOf k).toNat)
  case atStart => exact ⟨0, by omega, rfl, Kept.refl w, fun i h h2 => by omega⟩
  case round =>
    obtain ⟨k, hk, rfl, hkw, hno⟩ := hrel
    have HX := Lib.hid (And.intro hkw hno)
    by_cases hlt : k < l.length
    · have hkl : (k : Int) < (l.length : Int) := by omega
      obtain ⟨b, o, rfl, hb, hcell⟩ := (HE.out.kept hkw).at_ (k) hlt
      obtain ⟨e, hee⟩ : ∃ e, (l)[k]'hlt = e := ⟨_, rfl⟩
      rw [hee] at hcell
      have c0 : wr.cell? ⟨b, o + k * 4, none⟩ = some (.int .u64 (hi e.x)) := hcell 0 (by omega)
      have c1 : wr.cell? ⟨b, o + k * 4 + 1, none⟩ = some (.int .u64 (lo e.x)) := hcell 1 (by omega)
      have c2 : wr.cell? ⟨b, o + k * 4 + 2, none⟩ = some (.int .i64 e.n) := hcell 2 (by omega)
      have c3 : wr.cell? ⟨b, o + k * 4 + 3, none⟩ = some (.int .i64 e.act) := hcell 3 (by omega)
      have Hee := Lib.hid hee
      clear hcell hee
      clear hkw hno
      cases hpe : p e
      · have HPE := Lib.hid (show p l[k] = false by rw [Hee.out]; exact hpe)
        have hcall := Lib.hid (show Calls Try.prog g (#[rv e] ++ lb) wr (Ret (.bool false) wr) by rw [← hpe]; exact HP.out wr e HX.out.1)
        clear Hee hpe
        go_wp2_with (first | (go_at_fn g; refine hcall.out.mono ?_; rintro e w1 ⟨rfl, q1, rfl⟩))
        go_roundw
        case rel => exact ⟨k + 1, by omega, by go_num, by simp (maxDischargeDepth := 99) [HX.out.1], fun i h h2 => by
          rcases Nat.lt_or_ge i k with hik | hik
          · exact HX.out.2 i h hik
          · have : i = k := by omega
            subst this; exact HPE.out⟩
        case measure => simp [intOf]; omega
      · have HV := Lib.hid (idxI_hit p l k hlt (show p l[k] = true by rw [Hee.out]; exact hpe) HX.out.2)
        have hcall := Lib.hid (show Calls Try.prog g (#[rv e] ++ lb) wr (Ret (.bool true) wr) by rw [← hpe]; exact HP.out wr e HX.out.1)
        clear Hee hpe
        go_wp2_with (first | (go_at_fn g; refine hcall.out.mono ?_; rintro e w1 ⟨rfl, q1, rfl⟩))
        go_ret
        exact Ret.of (by rw [HV.out]; rfl) (by simp (maxDischargeDepth := 99) [HX.out.1])
    · have HV := Lib.hid (idxI_miss p l fun i h => hno i h (by omega))
      clear hkw hno
      go_wp2_with fail
      go_ret
      exact Ret.of (by rw [HV.out]; rfl) (by simp (maxDischargeDepth := 99) [HX.out.1])
theorem under_slRt : Try.prog.underlying 22 = some (.slice 29) := Try.underlying22
set_option maxRecDepth 100000 in
theorem cloneRt_any {l : List Rt} {v : Value} (w : World) (hl : Els w v 4 Rt.cells l) (hn : l.length ≤ 100000) : Calls Try.prog 46 #[v] w (RetEls 29 4 Rt.cells l w) := by
  obtain ⟨a, c, rfl, hc, he⟩ := hl.form
  have HE := Lib.hid he
  clear hl he
  have heq := fun w => Lib.run_eql_slice_nil (P := Try.prog) w 22 29 a l.length c 0 0 under_slRt
  cases a with
  | none =>
    have h0 : l = [] := by
      obtain ⟨a', c', e, _, h⟩ := HE.out
      by_cases hl : 0 < l.length
      · obtain ⟨b, o, ha, _⟩ := h hl
        injection e with e1
        rw [← e1] at ha; cases ha
      · exact List.eq_nil_of_length_eq_zero (by omega)
    subst h0
    simp only [List.length_nil, Option.isNone_none] at heq
    go_enter Try.func46, Try.ntmps46
    go_wp2_with fail
    go_ret
    exact RetEls.mk (Kept.refl w) (Own.nil _ _ (Kept.refl _) _ _)
  | some ad =>
    have HO := Lib.hid (show Own w (w.alloc (.cells #[] 29)) 29 4 (.slice (some ⟨w.heap.size, 0, none⟩) 0 0) 0 [] from
      ⟨Kept.alloc (Kept.refl w) _, by simp, .inr ⟨w.heap.size, 0, #[], rfl, Nat.le_refl _, heap_alloc_new _ _, Nat.le_refl _, by unfold maxLen; omega, by simp, by simp⟩⟩)
    go_enter Try.func46, Try.ntmps46
    go_wp2_with (first | (at_builtin; refine wpList_push_all rfl _ _ 22 rfl 29 (.agg #[.int .u64 0, .int .u64 0, .int .i64 0, .int .i64 0]) 4 32 Try.underlying22 info_route rfl (by omega) Rt.cells_len Rt.one _ 0 [] rfl HO.out ad c l rfl (HE.out.alloc _) (by unfold maxLen; omega) (by omega) ?_; intro v' w1 hown1))
    go_ret
    exact RetEls.mk (Kept.refl w) (by simpa using hown1)
set_option maxHeartbeats 2000000 in
set_option maxRecDepth 100000 in
theorem deleteFuncRt_any {l : List Rt} {v : Value} (p : Rt → Bool) (g : FuncId) (lb : Array Value) (W0 w : World) (ho : Own W0 w 29 4 v l.length (l.flatMap Rt.cells)) (hn : l.length ≤ 100000) (eg : ∀ args w, (callFunc g args).run Try.prog w = .ok (.enter g args) w)
    (hp : GivesRt g lb p W0) : Calls Try.prog 54 #[v, .func (.func g) #[] lb] w fun en w' => ∃ v', en = .returned v' ∧ Own W0 w' 29 4 v' (l.filter fun x => !p x).length ((l.filter fun x => !p x).flatMap Rt.cells) := by
  have hl := Own.els Rt.cells_len ho
  have hpw : GivesRt g lb p w := fun W e hk => hp W e (ho.kept.trans hk)
  have hix := Lib.hid (indexFuncRt_any p g lb w hl hn eg hpw)
  rcases idxI_cases p l with ⟨h1, h2⟩ | ⟨k, hk, h1, h2, h3⟩
  · have hf : (l.filter fun x => !p x) = l := List.filter_eq_self.2 fun x hx => by
      obtain ⟨i, hi, rfl⟩ := List.getElem_of_mem hx
      rw [h2 i hi]; rfl
    rw [hf]
    rw [h1] at hix
    have HO := Lib.hid ho
    clear h1 h2 hf hl hpw ho hp
    go_enter Try.func54, Try.ntmps54
    go_wp2_with (first | (go_at_call 69; first | ((refine (calls_in (hix.out)).mono ?_); rintro e w1 ⟨rfl, q1, rfl⟩) | ((refine (hix.out).mono ?_); rintro e w1 ⟨rfl, q1, rfl⟩)))
    go_ret
    exact ⟨v, rfl, HO.out.ext _⟩
  · rw [h1] at hix
    obtain ⟨b, c, rfl, hb0, hblt, hnc, hcl, hfz⟩ := ho.form (by omega)
    have HD := Lib.hid (Del.start k hk h2 h3)
    have HO := Lib.hid ho
    have HP := Lib.hid hp
    have hk1 : ((k : Int) == -1) = false := by rw [beq_eq_false_iff_ne]; omega
    clear h1 h2 h3 hl hpw ho hp hcl hfz
    go_enter Try.func54, Try.ntmps54
    go_wp2_with (first | (go_at_call 69; first | ((refine (calls_in (hix.out)).mono ?_); rintro e w1 ⟨rfl, q1, rfl⟩) | ((refine (hix.out).mono ?_); rintro e w1 ⟨rfl, q1, rfl⟩)))
    go_loopw [5, 6, 7] (fun vi vj _ wr => ∃ (i j : Nat) (L : List Rt), vi = .int .i64 i ∧ vj = .int .i64 j ∧ Del p l j i L ∧ Own W0 wr 29 4 (.slice (some ⟨b, 0, none⟩) l.length c) l.length (L.flatMap Rt.cells)) (fun _ j _ _ => l.length - (intOf j).toNat)
    case atStart => exact ⟨k, k + 1, l, rfl, by go_num, HD.out, HO.out.ext _⟩
    case round =>
      clear HD HO hix hk
      obtain ⟨i, j, L, rfl, rfl, hD, hown⟩ := hrel
      have hLl := hD.len
      have hown2 : Own W0 wr 29 4 (.slice (some ⟨b, 0, none⟩) L.length c) L.length (L.flatMap Rt.cells) := by rw [hLl]; exact hown
      have HE := Lib.hid (Own.els Rt.cells_len hown2)
      have hij := hD.ij
      have hjn := hD.jn
      by_cases hlt : j < l.length
      · have hkl : (j : Int) < (l.length : Int) := by omega
        have hjl : j < L.length := by omega
        have hil : i < L.length := by omega
        obtain ⟨hb, hcell⟩ := (HE.out).at2 (j) hjl
        obtain ⟨e, hee⟩ : ∃ e, (L)[j]'hjl = e := ⟨_, rfl⟩
        rw [hee] at hcell
        have c0 : wr.cell? ⟨b, j * 4, none⟩ = some (.int .u64 (hi e.x)) := by have h := hcell 0 (by omega); rw [Nat.zero_add] at h; exact h
        have c1 : wr.cell? ⟨b, j * 4 + 1, none⟩ = some (.int .u64 (lo e.x)) := by have h := hcell 1 (by omega); rw [Nat.zero_add] at h; exact h
        have c2 : wr.cell? ⟨b, j * 4 + 2, none⟩ = some (.int .i64 e.n) := by have h := hcell 2 (by omega); rw [Nat.zero_add] at h; exact h
        have c3 : wr.cell? ⟨b, j * 4 + 3, none⟩ = some (.int .i64 e.act) := by have h := hcell 3 (by omega); rw [Nat.zero_add] at h; exact h
        have Hee := Lib.hid hee
        clear hcell hee
        obtain ⟨hbz, hcellz⟩ := (HE.out).at2 (i) hil
        obtain ⟨ez, heez⟩ : ∃ e, (L)[i]'hil = e := ⟨_, rfl⟩
        rw [heez] at hcellz
        have cz0 : wr.cell? ⟨b, i * 4, none⟩ = some (.int .u64 (hi ez.x)) := by have h := hcellz 0 (by omega); rw [Nat.zero_add] at h; exact h
        have cz1 : wr.cell? ⟨b, i * 4 + 1, none⟩ = some (.int .u64 (lo ez.x)) := by have h := hcellz 1 (by omega); rw [Nat.zero_add] at h; exact h
        have cz2 : wr.cell? ⟨b, i * 4 + 2, none⟩ = some (.int .i64 ez.n) := by have h := hcellz 2 (by omega); rw [Nat.zero_add] at h; exact h
        have cz3 : wr.cell? ⟨b, i * 4 + 3, none⟩ = some (.int .i64 ez.act) := by have h := hcellz 3 (by omega); rw [Nat.zero_add] at h; exact h
        have Heez := Lib.hid heez
        clear hcellz heez
        have hfz := fun k => hown.2.frozenAt k
        have HO := Lib.hid hown2
        have HLl := Lib.hid hLl
        have HG := Lib.hid (hD.get hlt)
        rw [Hee.out] at HG
        clear hown hown2 Hee Heez hLl
        cases hpe : p e
        · have HD := Lib.hid (hD.keep hlt (by rw [← HG.out]; exact hpe))
          have hcall := Lib.hid (show Calls Try.prog g (#[rv e] ++ lb) (wr.alloc (.cells #[.int .u64 (hi e.x), .int .u64 (lo e.x), .int .i64 e.n, .int .i64 e.act] 29)) (Ret (.bool false) (wr.alloc (.cells #[.int .u64 (hi e.x), .int .u64 (lo e.x), .int .i64 e.n, .int .i64 e.act] 29))) by rw [← hpe]; exact HP.out _ e (HO.out.1.alloc _))
          clear hpe hD
          go_wp2_with (first | (go_at_fn g; refine hcall.out.mono ?_; rintro e w1 ⟨rfl, q1, rfl⟩))
          go_roundw
          case rel =>
            refine ⟨i + 1, j + 1, L.set i e, by go_num, by go_num, by rw [HG.out]; exact HD.out, ?_⟩
            have ho := (((HO.out.alloc (.cells #[.int .u64 (hi e.x), .int .u64 (lo e.x), .int .i64 e.n, .int .i64 e.act] 29)).ext q1))
            rw [← setAll_flat Rt.cells_len L i hil e, ← HLl.out]
            exact (Own.stored (Own.stored (Own.stored (Own.stored ho hb0 (i * 4 + 0) _) hb0 (i * 4 + 1) _) hb0 (i * 4 + 2) _) hb0 (i * 4 + 3) _)
          case measure => simp [intOf]; omega
        · have HD := Lib.hid (hD.skip hlt (by rw [← HG.out]; exact hpe))
          have hcall := Lib.hid (show Calls Try.prog g (#[rv e] ++ lb) (wr.alloc (.cells #[.int .u64 (hi e.x), .int .u64 (lo e.x), .int .i64 e.n, .int .i64 e.act] 29)) (Ret (.bool true) (wr.alloc (.cells #[.int .u64 (hi e.x), .int .u64 (lo e.x), .int .i64 e.n, .int .i64 e.act] 29))) by rw [← hpe]; exact HP.out _ e (HO.out.1.alloc _))
          clear hpe hD
          go_wp2_with (first | (go_at_fn g; refine hcall.out.mono ?_; rintro e w1 ⟨rfl, q1, rfl⟩))
          go_roundw
          case rel => exact ⟨i, j + 1, L, rfl, by go_num, HD.out, by rw [← HLl.out]; exact (HO.out.alloc _).ext _⟩
          case measure => simp [intOf]; omega
      · have hjl : j = l.length := by omega
        subst hjl
        have HD := Lib.hid hD.done
        have HO := Lib.hid hown2
        have hil : i ≤ L.length := by omega
        have hic : i < c := by omega
        have hil2 : i ≤ l.length := by omega
        have HLl := Lib.hid hLl
        have HT := Lib.hid (flat_take Rt.cells_len L i hil)
        clear hD hown hown2 hLl
        have HO2 := Lib.hid (show Own W0 wr 29 4 (.slice (some ⟨b, 0, none⟩) l.length c) l.length (L.flatMap Rt.cells) by rw [← HLl.out]; exact HO.out)
        go_wp2_with (first | (refine wpList_clear_own rfl (.tmp 38) 22 rfl 29 (.agg #[.int .u64 0, .int .u64 0, .int .i64 0, .int .i64 0]) 4 Try.underlying22 (fun _ => by kernel_rfl) rfl (by simp [Value.cells, Value.oneCell']) b l.length c i (l.length - i) (c - i) _ rfl HO2.out (by omega) ?_; intro w1 hown1))
        go_ret
        have e1 : (l.filter fun x => !p x).length = i := by rw [← HD.out, List.length_take]; omega
        exact ⟨_, rfl, by rw [e1, ← HD.out, ← HT.out]; exact hown1⟩
end Go.Proofs.Ytjkhdjonlppdoaa
