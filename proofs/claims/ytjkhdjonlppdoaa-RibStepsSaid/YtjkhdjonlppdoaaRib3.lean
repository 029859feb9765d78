/- Routes: the reference's Find, Best, of tables. -/
import Derived.Test.YtjkhdjonlppdoaaRib2
import Derived.Test.YtjkhdjonlppdoaaMathK2
namespace Pg
open Go
def z0r : Rt := ⟨0#128, 0, 0⟩
def eqR (x : B) (n : Int) (r : Rt) : Bool := decide (r.x = x) && decide (r.n = n)
theorem find_at {l : List Rt} {p : Rt → Bool} (k : Nat) (hk : k < l.length) (hp : p l[k] = true) (hn : ∀ i (h : i < l.length), i < k → p l[i] = false) : l.find? p = some l[k] := by
  rw [List.find?_eq_some_iff_getElem]
  exact ⟨hp, k, hk, rfl, fun j hj => by rw [hn j (by omega) hj]; rfl⟩
theorem find_none {l : List Rt} {p : Rt → Bool} (hn : ∀ i (h : i < l.length), p l[i] = false) : l.find? p = none := by
  rw [List.find?_eq_none]
  intro x hx
  obtain ⟨i, hi, rfl⟩ := List.getElem_of_mem hx
  rw [hn i hi]; decide
end Pg
namespace Go.Proofs.Ytjkhdjonlppdoaa
open Go.RowKit Pg

theorem refmatch_as {b : Bool} {x : B} {n : Int} {y : B} (h : matchB x n y = b) (w : World) : Calls Try.prog 50 #[pv x n, av y] w (Ret (.bool b) w) := by rw [← h]; exact refmatch_any x n y w
abbrev retR (o : Option Rt) : Value := .tuple #[rv (o.getD z0r), .bool o.isSome]
set_option maxHeartbeats 1000000 in
set_option maxRecDepth 100000 in
theorem reffindR_any {l : List Rt} {v : Value} (x : B) (n : Int) (w : World) (hl : Els w v 4 Rt.cells l) (hn : l.length ≤ 1000) : Calls Try.prog 24 #[v, pv x n] w (Ret (retR (l.find? (eqR x n))) w) := by
  obtain ⟨a, c, rfl, hc, he⟩ := hl.form
  have HE := Lib.hid he
  clear hl he
  have e0 : hi 0#128 = 0 := by kernel_rfl
  have e1 : lo 0#128 = 0 := by kernel_rfl
  go_enter Try.func24, Try.ntmps24
  go_wp2_with fail
  go_loopw [6] (fun vk wr => ∃ k : Nat, k ≤ l.length ∧ vk = .int .i64 k ∧ Kept ((w.alloc (.cells #[.int .u64 (hi x), .int .u64 (lo x), .int .i64 n] 34)).alloc (.cells #[.int .u64 0, .int .u64 0, .int .i64 0, .int .i64 0] 36)) wr ∧ ∀ i (h : i < l.length), i < k → eqR x n l[i] = false) (fun k _ => l.length - (intOf k).toNat)
  case atStart => exact ⟨0, by omega, rfl, Kept.refl _, fun i h h2 => by omega⟩
  case round =>
    obtain ⟨k, hk, rfl, hkw, hno⟩ := hrel
    have HX := Lib.hid hkw
    have HN := Lib.hid hno
    have bp := ((Blk.new' w 34 #[.int .u64 (hi x), .int .u64 (lo x), .int .i64 n] rfl).alloc (.cells #[.int .u64 0, .int .u64 0, .int .i64 0, .int .i64 0] 36)).kept hkw
    have br := (Blk.new' (w.alloc (.cells #[.int .u64 (hi x), .int .u64 (lo x), .int .i64 n] 34)) 36 #[.int .u64 0, .int .u64 0, .int .i64 0, .int .i64 0] (g := w.heap.size + 1) (by simp)).kept hkw
    obtain ⟨p0, p1, p2, pl⟩ := Blk.three bp
    obtain ⟨r0, r1, r2, r3, rl⟩ := Blk.four br
    have rf := fun i => br.frozen i
    have HK := Lib.hid ((Kept.alloc (Kept.alloc (Kept.refl w) _) _).trans hkw)
    by_cases hlt : k < l.length
    · have hkl : (k : Int) < (l.length : Int) := by omega
      have k0 : (0 : Int) ≤ k := by omega
      obtain ⟨b, o, rfl, hb, hcell⟩ := (HE.out.kept HK.out).at_ (k) hlt
      obtain ⟨e, hee⟩ : ∃ e, (l)[k]'hlt = e := ⟨_, rfl⟩
      rw [hee] at hcell
      have c0 : wr.cell? ⟨b, o + k * 4, none⟩ = some (.int .u64 (hi e.x)) := hcell 0 (by omega)
      have c1 : wr.cell? ⟨b, o + k * 4 + 1, none⟩ = some (.int .u64 (lo e.x)) := hcell 1 (by omega)
      have c2 : wr.cell? ⟨b, o + k * 4 + 2, none⟩ = some (.int .i64 e.n) := hcell 2 (by omega)
      have c3 : wr.cell? ⟨b, o + k * 4 + 3, none⟩ = some (.int .i64 e.act) := hcell 3 (by omega)
      have Hee := Lib.hid hee
      clear hcell hee
      by_cases hp : e.x = x ∧ e.n = n
      · obtain ⟨h1, h2⟩ := hp
        have HV := Lib.hid (show l.find? (eqR x n) = some e by rw [find_at k hlt (by rw [Hee.out]; simp [eqR, h1, h2]) hno, Hee.out])
        obtain ⟨ex, en, ea⟩ := e
        dsimp only at h1 h2 c0 c1 c2 c3
        subst h1 h2
        clear hkw hno Hee bp br
        go_wp2_with fail
        refine region_ext _ (by first | exact Later.ext _ _ | exact Later.refl _) mixed (by kernel_rfl) ?_
        repeat (go_big_quiet_step (fail))
        refine wpQuiet_nil ?_
        rintro _ ⟨q, rfl⟩
        go_wp2_with fail
        rw [HV.out]
        exact bodyPost_ret (v := retR (some ⟨ex, en, ea⟩)) (by simp [results, Try.results24, go_sem, rv, r0, r1, r2, r3, rl]) rfl (Ret.mk (by simp (maxDischargeDepth := 99) [HK.out]))
      · have HNe := Lib.hid (show eqR x n l[k] = false by rw [Hee.out]; unfold eqR; rw [Bool.and_eq_false_iff]; rcases Classical.not_and_iff_not_or_not.1 hp with h | h <;> simp [h])
        obtain ⟨ex, en, ea⟩ := e
        dsimp only at hp c0 c1 c2 c3
        by_cases hx : ex = x
        · subst hx
          have hn9 : ¬ en = n := fun h => hp ⟨rfl, h⟩
          clear hkw hno Hee bp br hp
          go_wp2_with fail
          refine region_ext _ (by first | exact Later.ext _ _ | exact Later.refl _) mixed (by kernel_rfl) ?_
          repeat (go_big_quiet_step (fail))
          refine wpQuiet_nil ?_
          rintro _ ⟨q, rfl⟩
          go_wp2_with fail
          go_roundw
          case rel => exact ⟨k + 1, by omega, by go_num, HX.out.ext _, fun i h h2 => by
            rcases Nat.lt_or_ge i k with hik | hik
            · exact HN.out i h hik
            · have : i = k := by omega
              subst this; exact HNe.out⟩
          case measure => simp [intOf]; omega
        · clear hkw hno Hee bp br hp
          go_wp2_with fail
          refine region_ext _ (by first | exact Later.ext _ _ | exact Later.refl _) mixed (by kernel_rfl) ?_
          repeat (go_big_quiet_step (fail))
          refine wpQuiet_nil ?_
          rintro _ ⟨q, rfl⟩
          go_wp2_with fail
          go_roundw
          case rel => exact ⟨k + 1, by omega, by go_num, HX.out.ext _, fun i h h2 => by
            rcases Nat.lt_or_ge i k with hik | hik
            · exact HN.out i h hik
            · have : i = k := by omega
              subst this; exact HNe.out⟩
          case measure => simp [intOf]; omega
    · have HV := Lib.hid (show l.find? (eqR x n) = none from find_none fun i h => hno i h (by omega))
      clear hkw hno bp br
      go_wp2_with fail
      rw [HV.out]
      exact bodyPost_ret (v := retR none) (by simp [results, Try.results24, go_sem, rv, z0r, e0, e1, r0, r1, r2, r3]) rfl (Ret.mk (by simp (maxDischargeDepth := 99) [HK.out]))
set_option maxHeartbeats 1000000 in
set_option maxRecDepth 100000 in
theorem refbestR_any {l : List Rt} {v : Value} (a : B) (w : World) (hl : Els w v 4 Rt.cells l) (hT : Tab l) (hn : l.length ≤ 1000) : Calls Try.prog 26 #[v, av a] w (Ret (retR (bestO (matchR a) l)) w) := by
  obtain ⟨ad, c, rfl, hc, he⟩ := hl.form
  have HE := Lib.hid he
  have HT := Lib.hid hT
  clear hl he hT
  have e0 : hi 0#128 = 0 := by kernel_rfl
  have e1 : lo 0#128 = 0 := by kernel_rfl
  go_enter Try.func26, Try.ntmps26
  go_wp2_with fail
  go_loopw [6, 7] (fun vn _ wr => ∃ n : Int, -1 ≤ n ∧ n ≤ 128 ∧ vn = .int .i64 n ∧ Kept ((w.alloc (.cells #[.int .u64 (hi a), .int .u64 (lo a)] 24)).alloc (.cells #[.int .u64 0, .int .u64 0, .int .i64 0, .int .i64 0] 36)) wr ∧ ∀ r ∈ l, matchR a r = true → r.n ≤ n) (fun vn _ _ => (intOf vn + 1).toNat)
  case atStart => exact ⟨128, by omega, by omega, rfl, Kept.refl _, fun r hr _ => (right_len (HT.out.right r hr)).2⟩
  case round =>
    obtain ⟨n, hn0, hn1, rfl, hkw, hmx⟩ := hrel
    have HX := Lib.hid hkw
    have HM := Lib.hid hmx
    clear hkw hmx
    by_cases hge : 0 ≤ n
    · go_wp2_with fail
      go_loopw [7] (fun vk w5 => ∃ k : Nat, k ≤ l.length ∧ vk = .int .i64 k ∧ Kept wr w5 ∧ ∀ i (h : i < l.length), i < k → ¬ (l[i].n = n ∧ matchR a l[i] = true)) (fun vk _ => l.length - (intOf vk).toNat)
      case atStart => exact ⟨0, by omega, rfl, Kept.refl _, fun i h h2 => by omega⟩
      case round =>
        obtain ⟨k, hk, rfl, hkw, hno⟩ := hrel
        have HY := Lib.hid hkw
        have HN := Lib.hid hno
        have bp := (((Blk.new' w 24 #[.int .u64 (hi a), .int .u64 (lo a)] rfl).alloc (.cells #[.int .u64 0, .int .u64 0, .int .i64 0, .int .i64 0] 36)).kept HX.out).kept hkw
        have br := ((Blk.new' (w.alloc (.cells #[.int .u64 (hi a), .int .u64 (lo a)] 24)) 36 #[.int .u64 0, .int .u64 0, .int .i64 0, .int .i64 0] (g := w.heap.size + 1) (by simp)).kept HX.out).kept hkw
        obtain ⟨p0, p1, pl⟩ := Blk.two bp
        obtain ⟨r0, r1, r2, r3, rl⟩ := Blk.four br
        have rf := fun i => br.frozen i
        have HK := Lib.hid ((Kept.alloc (Kept.alloc (Kept.refl w) _) _).trans (HX.out.trans hkw))
        by_cases hlt : k < l.length
        · have hkl : (k : Int) < (l.length : Int) := by omega
          have k0 : (0 : Int) ≤ k := by omega
          obtain ⟨b, o, rfl, hb, hcell⟩ := (HE.out.kept HK.out).at_ (k) hlt
          obtain ⟨e, hee⟩ : ∃ e, (l)[k]'hlt = e := ⟨_, rfl⟩
          rw [hee] at hcell
          have c0 : wr.cell? ⟨b, o + k * 4, none⟩ = some (.int .u64 (hi e.x)) := hcell 0 (by omega)
          have c1 : wr.cell? ⟨b, o + k * 4 + 1, none⟩ = some (.int .u64 (lo e.x)) := hcell 1 (by omega)
          have c2 : wr.cell? ⟨b, o + k * 4 + 2, none⟩ = some (.int .i64 e.n) := hcell 2 (by omega)
          have c3 : wr.cell? ⟨b, o + k * 4 + 3, none⟩ = some (.int .i64 e.act) := hcell 3 (by omega)
          have Hee := Lib.hid hee
          clear hcell hee
          have HEE := Lib.hid Hee.out
          clear hkw hno Hee bp br
          by_cases hen : e.n = n
          · cases hm : matchR a e
            · have HNe := Lib.hid (show ¬ (l[k].n = n ∧ matchR a l[k] = true) by rw [HEE.out, hm]; simp)
              have HC := Lib.hid (refmatch_as (show matchB e.x e.n a = false from hm))
              have hb : (e.n == n) = true := by simp [hen]
              clear hen hm
              go_wp2_with fail
              refine region_ext _ (by first | exact Later.ext _ _ | exact Later.refl _) mixed (by kernel_rfl) ?_
              repeat (go_big_quiet_step ((first | (go_at_call 50; exact calls_in (HC.out _)))))
              refine wpQuiet_nil ?_
              rintro _ ⟨q, rfl⟩
              go_wp2_with fail
              go_roundw
              case rel => exact ⟨k + 1, by omega, by go_num, HY.out.ext _, fun i h h2 => by
                rcases Nat.lt_or_ge i k with hik | hik
                · exact HN.out i h hik
                · have : i = k := by omega
                  subst this; exact HNe.out⟩
              case measure => simp [intOf]; omega
            · have HV := Lib.hid (show bestO (matchR a) l = some e from isTop_uniq HT.out (fun _ _ h => h) (bestO_top _ _) ⟨by rw [← HEE.out]; exact List.getElem_mem hlt, hm, fun r hr hp => by rw [hen]; exact HM.out r hr hp⟩)
              have HC := Lib.hid (refmatch_as (show matchB e.x e.n a = true from hm))
              have hb : (e.n == n) = true := by simp [hen]
              clear hen hm
              go_wp2_with fail
              refine region_ext _ (by first | exact Later.ext _ _ | exact Later.refl _) mixed (by kernel_rfl) ?_
              repeat (go_big_quiet_step ((first | (go_at_call 50; exact calls_in (HC.out _)))))
              refine wpQuiet_nil ?_
              rintro _ ⟨q, rfl⟩
              go_wp2_with fail
              rw [HV.out]
              exact bodyPost_ret (v := retR (some e)) (by simp [results, Try.results26, go_sem, rv, r0, r1, r2, r3, rl]) rfl (Ret.mk (by simp (maxDischargeDepth := 99) [HK.out]))
          · have HNe := Lib.hid (show ¬ (l[k].n = n ∧ matchR a l[k] = true) by rw [HEE.out]; exact fun h => hen h.1)
            have hb : (e.n == n) = false := by simp [hen]
            clear hen
            go_wp2_with fail
            refine region_ext _ (by first | exact Later.ext _ _ | exact Later.refl _) mixed (by kernel_rfl) ?_
            repeat (go_big_quiet_step (fail))
            refine wpQuiet_nil ?_
            rintro _ ⟨q, rfl⟩
            go_wp2_with fail
            go_roundw
            case rel => exact ⟨k + 1, by omega, by go_num, HY.out.ext _, fun i h h2 => by
              rcases Nat.lt_or_ge i k with hik | hik
              · exact HN.out i h hik
              · have : i = k := by omega
                subst this; exact HNe.out⟩
            case measure => simp [intOf]; omega
        · have hkl : k = l.length := by omega
          subst hkl
          have HMN := Lib.hid (show ∀ r ∈ l, matchR a r = true → r.n ≤ n - 1 from fun r hr hp => by
            obtain ⟨i, hi9, rfl⟩ := List.getElem_of_mem hr
            have h1 := HM.out _ hr hp
            have h2 := hno i hi9 hi9
            have : l[i].n ≠ n := fun h => h2 ⟨h, hp⟩
            omega)
          clear hkw hno bp br hlt
          go_wp2_with fail
          go_roundw
          case rel => exact ⟨n - 1, by omega, by omega, by go_num, HX.out.trans HY.out, HMN.out⟩
          case measure => simp [intOf]; omega
    · have hn2 : n = -1 := by omega
      subst hn2
      have HV := Lib.hid (show bestO (matchR a) l = none from isTop_uniq HT.out (fun _ _ h => h) (bestO_top _ _) (fun r hr => by
        cases hp : matchR a r
        · rfl
        · have h1 := HM.out r hr hp
          have h2 := (right_len (HT.out.right r hr)).1
          omega))
      have br := (Blk.new' (w.alloc (.cells #[.int .u64 (hi a), .int .u64 (lo a)] 24)) 36 #[.int .u64 0, .int .u64 0, .int .i64 0, .int .i64 0] (g := w.heap.size + 1) (by simp)).kept HX.out
      obtain ⟨r0, r1, r2, r3, rl⟩ := Blk.four br
      have rf := fun i => br.frozen i
      have HK := Lib.hid ((Kept.alloc (Kept.alloc (Kept.refl w) _) _).trans HX.out)
      clear br
      go_wp2_with fail
      rw [HV.out]
      exact bodyPost_ret (v := retR none) (by simp [results, Try.results26, go_sem, rv, z0r, e0, e1, r0, r1, r2, r3]) rfl (Ret.mk (by simp (maxDischargeDepth := 99) [HK.out]))
end Go.Proofs.Ytjkhdjonlppdoaa
