/- AddrBits: of any address: any bit is told, and set, as the reference does bit by bit; of a bit that there is not nothing is. -/
import Derived.Test.YtnjopepdjmifjaaRows
import Derived.Test.YtnjopepdjmifjaaRef01
import Derived.Test.YtnjopepdjmifjaaOpen
import Derived.Test.YtnjopepdjmifjaaAwake1
namespace Go.Proofs.Ytnjopepdjmifjaa
open Go.RowKit Pg Go.ChangeShapes Go.WideShapes Go.ChangeAt

set_option maxRecDepth 100000 in
theorem addrBits_walk (x : B) (n : Int) (_ : -9223372036854775808 ≤ n) (_ : n ≤ 9223372036854775807) (b : Bool) (w : World) : Calls Try.prog 8 #[av x, .int .i64 n, .bool b] w (Ret (.bool true) w) := by
  by_cases hin : 0 ≤ n ∧ n < 128
  · obtain ⟨k, rfl⟩ := Int.eq_ofNat_of_zero_le hin.1
    have hlt : k < 128 := by omega
    have c1 : ¬ (k : Int) < 0 := by omega
    have c2 : ¬ (127 : Int) < k := by omega
    have i0 : (0 : Int) ≤ k := by omega
    have i1 : (k : Int) < 128 := by omega
    clear hin
    have hset : ∀ i, i < 128 → upd (bt x) k b i = bt (setB x k b) i := fun i hi => by
      rw [bt_setB x k b hlt i hi]; unfold upd; rfl
    have HS := Lib.hid hset
    clear hset
    go_enter Try.func8, Try.ntmps8
    go_wp2_with (first | (go_at_call 24; refine (with_in _ _ hlt _ _).mono ?_; rintro e w1 ⟨rfl, q1, rfl⟩))
    refine (calls_bits_any (bits_any x _)).mono ?_
    rintro e w2 ⟨g, rfl, hg, hb, p2, rfl⟩
    have hl := hb.lt
    have HB := Lib.hid hb
    have c3 := hb.cell k hlt
    have f3 := Blk.frozen hb
    clear hb
    go_wp2_with fail
    refine region_ext _ (Later.refl _) mixed (by kernel_rfl) ?_
    repeat (go_big_quiet_step ((go_at_call 25; exact calls_in (getbit_in _ _ hlt _))))
    refine wpQuiet_nil ?_
    rintro _ ⟨q, rfl⟩
    have HN : IsBits ((ext (ext ((ext (w.alloc (Obj.cells #[.int .u64 (hi x), .int .u64 (lo x)] 24)) q1).alloc (Obj.cells #[.int .u64 (hi (setB x k b)), .int .u64 (lo (setB x k b))] 24)) p2) q).setCell ⟨g, k, none⟩ (.bool b)) g 4 (bt (setB x k b)) := by
      have h := Blk.set_ (Blk.ext HB.out q) k (.bool b)
      rw [bitCells_set] at h
      unfold IsBits
      rw [← bitCells_congr HS.out]
      exact h
    have HN' := Lib.hid HN
    have hlt' := HN.lt
    clear HN
    simp only [World.size_alloc] at hg
    have hne : ¬ g = (ext (w.alloc (Obj.cells #[.int .u64 (hi x), .int .u64 (lo x)] 24)) q1).heap.size := by omega
    have hne' : ¬ (ext (w.alloc (Obj.cells #[.int .u64 (hi x), .int .u64 (lo x)] 24)) q1).heap.size = g := by omega
    have hwg : w.heap.size ≤ g := by have := ext_size (w.alloc (Obj.cells #[.int .u64 (hi x), .int .u64 (lo x)] 24)) q1; simp only [World.size_alloc] at this; omega
    go_wp2_with fail
    refine region_ext _ (Later.refl _) mixed (by kernel_rfl) ?_
    repeat (go_big_quiet_step ((first | (go_at_call 26; exact calls_in (words_any (setB x k b) g 128 _ (Blk.ext HN'.out _).lt (fun i hi => IsBits.cell (Blk.ext HN'.out _) i hi))) | (go_at_call 16; exact calls_in (awake_any _)))))
    refine wpQuiet_nil ?_
    rintro _ ⟨q3, rfl⟩
    go_wp2_with fail
    go_ret
    exact Ret.of rfl (by simp (maxDischargeDepth := 99) [hwg])
  · by_cases c1 : n < 0
    · go_enter Try.func8, Try.ntmps8
      go_wp2_with (first | (go_at_call 24; refine (with_out _ _ hin _ _).mono ?_; rintro e w1 ⟨rfl, q1, rfl⟩) | (go_at_call 25; first | (refine (calls_in (getbit_out _ _ hin _)).mono ?_; rintro e w1 ⟨rfl, q1, rfl⟩) | (refine (getbit_out _ _ hin _).mono ?_; rintro e w1 ⟨rfl, q1, rfl⟩)) | (go_at_call 16; refine (calls_in (awake_any _)).mono ?_; rintro e w1 ⟨rfl, q1, rfl⟩))
      go_ret
      exact Ret.of rfl (by simp (maxDischargeDepth := 99))
    · have c2 : 127 < n := by omega
      go_enter Try.func8, Try.ntmps8
      go_wp2_with (first | (go_at_call 24; refine (with_out _ _ hin _ _).mono ?_; rintro e w1 ⟨rfl, q1, rfl⟩) | (go_at_call 25; first | (refine (calls_in (getbit_out _ _ hin _)).mono ?_; rintro e w1 ⟨rfl, q1, rfl⟩) | (refine (getbit_out _ _ hin _).mono ?_; rintro e w1 ⟨rfl, q1, rfl⟩)) | (go_at_call 16; refine (calls_in (awake_any _)).mono ?_; rintro e w1 ⟨rfl, q1, rfl⟩))
      go_ret
      exact Ret.of rfl (by simp (maxDischargeDepth := 99))
set_option maxRecDepth 100000 in
theorem addrBits_lifted (os : Os) (started : os.Started) (H : Type) (enc : TypeId × Value → H) :
    ReturnsInHanded {} Try.checked os 8 .any (Rows.addrBitsSpec.pre6 enc Try.prog Try.f8 Rows.addrBitsRow.domain false) (Rows.addrBitsSpec.post enc Try.prog Try.f8 false true false false) := by
  refine returnsInHanded_of_change (C := Try.checked) own started (by kernel_rfl) Try.func8
    (ChangeSpec.witness6 (enc := enc) (C := Try.checked) false ⟨#[], #[.agg #[.int .u64 0, .int .u64 0], .int .i64 0, .bool false], []⟩ 8 (by kernel_rfl) (by kernel_rfl) (by kernel_rfl) (by kernel_rfl)) ?_
  intro W base args ds gs before hval0 hW hcnd _
  have hval : ∀ (j : Nat) t v, Try.f8.params[j]? = some t → args[j]? = some v → Value.okWide Try.prog W .any base t v := hval0
  have hW' := hW
  obtain ⟨p, q, hA0, hV, rfl, hfz, hnd⟩ := hW
  obtain ⟨rfl, rfl⟩ := trodVars_none hV
  rw [List.append_nil] at hW'
  have hA : DataW.TrodAll enc Try.prog W 0 (fun _ => true) true Try.f8.params.toList args.toList ds p := hA0
  have hA1 := hA
  rw [Try.params8] at hA1 hval
  obtain ⟨v0, vs0, d0, ds0, p0, q0, hargs, rfl, rfl, h0, r0⟩ := trodAll_cons hA1
  obtain ⟨v1, vs1, d1, ds1, p1, q1, rfl, rfl, rfl, h1, r1⟩ := trodAll_cons r0
  obtain ⟨v2, vs2, d2, ds2, p2, q2, rfl, rfl, rfl, h2, r2⟩ := trodAll_cons r1
  obtain ⟨rfl, rfl, rfl⟩ := trodAll_nil r2
  obtain rfl : args = #[v0, v1, v2] := by cases args; simp_all
  obtain ⟨X0, rfl⟩ := open_addr (hval 0 _ v0 rfl rfl) h0
  obtain ⟨X1, rfl, rfl, rfl, w1⟩ := open_int Try.underlying3 (hval 1 _ v1 rfl rfl) h1
  obtain ⟨X2, rfl, rfl, rfl⟩ := open_bool Try.underlying4 (hval 2 _ v2 rfl rfl) h2
  refine (addrBits_walk X0 X1 (wf_i64' w1).1 (wf_i64' w1).2 X2 W).mono fun e W' ⟨he, hg⟩ => ?_
  subst he
  exact ⟨_, rfl, post_true laidOut (by rw [Try.params8]; intro t ht; simp at ht; first | (subst ht; exact ⟨by kernel_rfl, of_decide_eq_true (by kernel_rfl)⟩) | (rcases ht with rfl | rfl <;> exact ⟨by kernel_rfl, of_decide_eq_true (by kernel_rfl)⟩) | (rcases ht with rfl | rfl | rfl <;> exact ⟨by kernel_rfl, of_decide_eq_true (by kernel_rfl)⟩) | (rcases ht with rfl | rfl | rfl | rfl <;> exact ⟨by kernel_rfl, of_decide_eq_true (by kernel_rfl)⟩)) rfl hW' hA rfl (trodAll_cons_mk (shut_bool Try.underlying4 _) trodAll_mk0) (Later.kept hg)⟩

theorem addrBits_holds : Rows.AddrBitsSaid :=
  OpenClaim.holds_of_wide 8 Try.f8 rfl rfl rfl rfl rfl rfl rfl ⟨rfl, rfl, rfl, rfl, rfl⟩ rfl rfl rfl rfl rfl (by kernel_rfl) Try.func8 (by kernel_rfl)
    (of_decide_eq_true (by kernel_rfl)) (by unfold Func.isWrapper; first | (rw [if_pos (by decide +kernel)]; kernel_rfl) | (rw [if_neg (by decide +kernel)]; exact ⟨rfl, rfl⟩))
    (fun os started H enc _ => addrBits_lifted os started H enc)
#print axioms addrBits_holds
end Go.Proofs.Ytnjopepdjmifjaa
