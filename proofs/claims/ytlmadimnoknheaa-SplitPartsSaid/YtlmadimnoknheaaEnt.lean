/- Entries: their contracts, one at a time. -/
import Derived.Test.YtlmadimnoknheaaMathW2
import Derived.Test.YtlmadimnoknheaaWord2
import Derived.Test.YtlmadimnoknheaaRef04
import Derived.Test.YtlmadimnoknheaaInfo
namespace Pg
open Go
/-- May an entry be? -/
def rightE (e : Ent) : Bool := decide (e.x = e.x &&& e.m) && (decide (0 ≤ e.len) && (decide (e.len ≤ 128) && (decide (1 ≤ e.act) && decide (e.act ≤ 255))))
def ofE (X : B) (N act : Int) : Ent := ⟨X &&& maskB (near N), maskB (near N), near N, act⟩
def aboveE (x y : Ent) : Bool := decide (y.len < x.len) && meetW x.x x.m y.x y.m
end Pg
namespace Go.Proofs.Ytlmadimnoknheaa
open Go.RowKit Pg

@[go_sem] theorem field_prefix1 (x : B) (n : Int) (w : World) : (Instr.field 60 (pv x n) 1).run Try.prog w = .ok (.int .i64 n) w := by kernel_rfl
theorem eof_any (X : B) (N act : Int) (w : World) : Calls Try.prog 33 #[pv X N, .int .i64 act] w (Ret (ev (ofE X N act)) w) := by
  go_enter Try.func33, Try.ntmps33
  go_wp2_with fail
  refine region_ext_tail _ (by first | exact Later.ext _ _ | exact Later.refl _) 10 mixed (by kernel_rfl) ?_
  simp only [List.take_succ_cons, List.take_zero, List.drop_succ_cons, List.drop_zero]
  repeat (go_big_quiet_step ((first | (go_at_call 26; exact calls_in (wof_any _ _ _)) | (go_at_call 27; exact calls_in (make_any _ _ _)))))
  refine wpQuiet_nil ?_
  rintro _ ⟨q, rfl⟩
  go_wp2_with fail
  exact bodyPost_ret (v := ev (ofE X N act)) (by simp [results, Try.results33, go_sem, ofE]) rfl (Ret.mk (by simp (maxDischargeDepth := 99)))
theorem law05one_any (e : Ent) (w : World) : Calls Try.prog 20 #[ev e] w (Ret (ev e) w) := by
  go_enter Try.func20, Try.ntmps20
  go_wp2_with fail
  refine region_ext_tail _ (by first | exact Later.ext _ _ | exact Later.refl _) 8 mixed (by kernel_rfl) ?_
  simp only [List.take_succ_cons, List.take_zero, List.drop_succ_cons, List.drop_zero]
  repeat (go_big_quiet_step ((first | (go_at_call 11; exact calls_in (law04of_any _ _ _)))))
  refine wpQuiet_nil ?_
  rintro _ ⟨q, rfl⟩
  go_wp2_with fail
  exact bodyPost_ret (v := ev e) (by simp [results, Try.results20, go_sem, ev]) rfl (Ret.mk (by simp (maxDischargeDepth := 99)))
set_option maxHeartbeats 1000000 in
set_option maxRecDepth 100000 in
theorem law05of_any {l : List Ent} {v : Value} (w : World) (hl : Els w v 6 Ent.cells l) (hn : l.length ≤ 1000) : Calls Try.prog 17 #[v] w (RetEls 45 6 Ent.cells l w) := by
  obtain ⟨a, c, rfl, hc, he⟩ := hl.form
  have HE := Lib.hid he
  clear hl he
  go_enter Try.func17, Try.ntmps17
  go_wp2_with fail
  go_loopw [3, 5, 8] (fun vo _ vk wr => ∃ k : Nat, k ≤ l.length ∧ vk = .int .i64 k ∧ Own w wr 45 6 vo k ((l.take k).flatMap Ent.cells)) (fun _ _ k _ => l.length - (intOf k).toNat)
  case atStart => exact ⟨0, by omega, rfl, Own.nil _ _ (Kept.refl _) _ _⟩
  case round =>
    obtain ⟨k, hk, rfl, hown⟩ := hrel
    by_cases hlt : k < l.length
    · have HO := Lib.hid hown
      have hkl : (k : Int) < (l.length : Int) := by omega
      have HT := Lib.hid (show l.take (k + 1) = l.take k ++ [l[k]] from List.take_succ_eq_append_getElem hlt)
      obtain ⟨b, o, rfl, hb, hcell⟩ := (HE.out.kept hown.kept).at_ (k) hlt
      obtain ⟨e, hee⟩ : ∃ e, (l)[k]'hlt = e := ⟨_, rfl⟩
      rw [hee] at hcell
      have c0 : wr.cell? ⟨b, o + k * 6, none⟩ = some (.int .u64 (hi e.x)) := hcell 0 (by omega)
      have c1 : wr.cell? ⟨b, o + k * 6 + 1, none⟩ = some (.int .u64 (lo e.x)) := hcell 1 (by omega)
      have c2 : wr.cell? ⟨b, o + k * 6 + 2, none⟩ = some (.int .u64 (hi e.m)) := hcell 2 (by omega)
      have c3 : wr.cell? ⟨b, o + k * 6 + 3, none⟩ = some (.int .u64 (lo e.m)) := hcell 3 (by omega)
      have c4 : wr.cell? ⟨b, o + k * 6 + 4, none⟩ = some (.int .i64 e.len) := hcell 4 (by omega)
      have c5 : wr.cell? ⟨b, o + k * 6 + 5, none⟩ = some (.int .i64 e.act) := hcell 5 (by omega)
      have Hee := Lib.hid hee
      clear hcell hee
      rw [Hee.out] at HT
      clear hown Hee
      go_wp2_with (first | (go_at_call 20; first | ((refine (calls_in (law05one_any _ _)).mono ?_); rintro e w1 ⟨rfl, q1, rfl⟩) | ((refine (law05one_any _ _).mono ?_); rintro e w1 ⟨rfl, q1, rfl⟩)) | (at_builtin; refine wpList_push rfl _ _ 40 rfl 45 (.agg #[.int .u64 0, .int .u64 0, .int .u64 0, .int .u64 0, .int .i64 0, .int .i64 0]) 6 48 Try.underlying40 info_refent rfl (by omega) u3 k _ rfl (((HO.out.alloc _).ext _).alloc _) _ 1 1 (Ent.cells e) rfl rfl (heap_alloc_new _ _) (by simp [Ent.cells, Value.oneCell']) (by unfold maxLen; omega) (by omega) ?_; intro v' w1 hown1))
      go_roundw
      case rel => exact ⟨k + 1, by omega, by go_num, by rw [HT.out, List.flatMap_append]; simpa using hown1⟩
      case measure => simp [intOf]; omega
    · have hkl : k = l.length := by omega
      subst hkl
      have HO := Lib.hid hown
      clear hown hlt hk
      go_wp2_with fail
      go_ret
      exact RetEls.mk (Kept.refl w) (by have := HO.out; rwa [List.take_length] at this)
end Go.Proofs.Ytlmadimnoknheaa
