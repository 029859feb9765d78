/- The entries that have to do with a bank, of any index; how often entries stand more than once; the reference's. -/
import Derived.Test.YtlmadimnoknheaaAwake16
namespace Pg
open Go
/-- The entries that have to do with a bank, of any index and number. -/
def partZ (k at_ : Int) (l : List Ent) : List Ent := l.filter fun e => decide (at_ ∈ (bankZ k e.x e.m).map fun n : Nat => (n : Int))
theorem partZ_yes (k : Nat) (h : k ≤ 3) (j : Nat) (hj : j < 2 ^ k) (l : List Ent) : partZ k j l = partL k j l := by
  unfold partZ partL
  apply List.filter_congr
  intro e _
  rw [bankZ_nat k h]
  cases hm : meetAt k e.x e.m j
  · rw [decide_eq_false]
    intro hc
    obtain ⟨n, hn, he⟩ := List.mem_map.1 hc
    have : n = j := by omega
    subst this
    rw [(mem_banksL.1 hn).2] at hm; cases hm
  · rw [decide_eq_true]
    exact List.mem_map.2 ⟨j, mem_banksL.2 ⟨hj, hm⟩, rfl⟩
theorem partZ_no (k at_ : Int) (h : at_ < 0 ∨ (k < 0 ∨ 3 < k) ∨ ∃ n : Nat, k = (n : Int) ∧ n ≤ 3 ∧ ((2 ^ n : Nat) : Int) ≤ at_) (l : List Ent) : partZ k at_ l = [] := by
  unfold partZ
  rw [List.filter_eq_nil_iff]
  intro e _
  rw [decide_eq_true_eq]
  intro hc
  obtain ⟨n, hn, he⟩ := List.mem_map.1 hc
  rcases h with h | h | ⟨m, rfl, hm, h⟩
  · omega
  · rw [bankZ_no k h] at hn; cases hn
  · rw [bankZ_nat m hm] at hn
    have := (mem_banksL.1 hn).1
    have h2 : (n : Int) < ((2 ^ m : Nat) : Int) := Int.ofNat_lt.2 this
    omega
def copiesN (k : Int) (l : List Ent) : Nat := (l.map fun e => (bankZ k e.x e.m).length - 1).sum
theorem copiesN_snoc (k : Int) (l : List Ent) (e : Ent) : copiesN k (l ++ [e]) = copiesN k l + ((bankZ k e.x e.m).length - 1) := by unfold copiesN; simp
theorem copiesN_le (k : Int) : ∀ l : List Ent, copiesN k l ≤ 8 * l.length
  | [] => by simp [copiesN]
  | e :: l => by
    have h := copiesN_le k l
    have h2 := bankZ_len k e.x e.m
    unfold copiesN at *
    simp only [List.map_cons, List.sum_cons, List.length_cons]
    omega
theorem bankZ_nodup (k : Int) (x m : B) : (bankZ k x m).Nodup := by
  unfold bankZ
  split
  · unfold banksL; exact List.nodup_range.filter _
  · exact List.nodup_nil
/-- What is appended behind t of an entry's banks. -/
def hitL (L : List Nat) (at_ : Int) (e : Ent) (t : Nat) : List Ent := if at_ ∈ (L.take t).map (fun n : Nat => (n : Int)) then [e] else []
theorem hitL_len (L : List Nat) (at_ : Int) (e : Ent) (t : Nat) : (hitL L at_ e t).length ≤ 1 := by unfold hitL; split <;> simp
theorem hitL_zero (L : List Nat) (at_ : Int) (e : Ent) : hitL L at_ e 0 = [] := by unfold hitL; simp
theorem hitL_no (L : List Nat) (at_ : Int) (e : Ent) (t : Nat) (h : t < L.length) (hne : ¬ (L[t] : Int) = at_) : hitL L at_ e (t + 1) = hitL L at_ e t := by
  unfold hitL
  rw [List.take_succ_eq_append_getElem h, List.map_append]
  simp only [List.mem_append, List.map_cons, List.map_nil, List.mem_singleton]
  have : ¬ at_ = (L[t] : Int) := fun h => hne h.symm
  simp [this]
theorem hitL_yes (L : List Nat) (hnd : L.Nodup) (at_ : Int) (e : Ent) (t : Nat) (h : t < L.length) (he : (L[t] : Int) = at_) : hitL L at_ e (t + 1) = [e] ∧ hitL L at_ e t = [] := by
  unfold hitL
  constructor
  · rw [if_pos]
    rw [List.take_succ_eq_append_getElem h, List.map_append]
    simp [he]
  · rw [if_neg]
    intro hc
    obtain ⟨n, hn, hne⟩ := List.mem_map.1 hc
    obtain ⟨i, hi', hin⟩ := List.getElem_of_mem hn
    have hit : i < t := by simp only [List.length_take] at hi'; omega
    rw [List.getElem_take] at hin
    have h1 : L[i]'(by omega) = L[t] := by rw [hin]; omega
    have := (List.getElem_inj hnd).1 h1
    omega
end Pg
namespace Go.Proofs.Ytlmadimnoknheaa
open Go.RowKit Pg

theorem part_any {l : List Ent} {v : Value} (k at_ : Int) (w : World) (hl : Els w v 6 Ent.cells l) (hn : l.length ≤ 1000) : Calls Try.prog 18 #[.int .i64 k, .int .i64 at_, v] w (RetEls 48 6 Ent.cells (partZ k at_ l) w) := by
  by_cases h1 : at_ < 0
  · rw [partZ_no k at_ (.inl h1)]; exact part_no k at_ (.inl h1) v w
  by_cases h2 : k < 0 ∨ 3 < k
  · rw [partZ_no k at_ (.inr (.inl h2))]; exact part_no k at_ (.inr (.inl h2)) v w
  obtain ⟨n, rfl⟩ := Int.eq_ofNat_of_zero_le (show 0 ≤ k by omega)
  obtain ⟨j, rfl⟩ := Int.eq_ofNat_of_zero_le (show 0 ≤ at_ by omega)
  by_cases h3 : j < 2 ^ n
  · rw [partZ_yes n (by omega) j h3]; exact part_yes n (by omega) j h3 w hl hn
  · have h4 : j < 0 ∨ ((n : Int) < 0 ∨ 3 < (n : Int)) ∨ ∃ m : Nat, (n : Int) = (m : Int) ∧ m ≤ 3 ∧ ((2 ^ m : Nat) : Int) ≤ (j : Int) := .inr (.inr ⟨n, rfl, by omega, Int.ofNat_le.2 (by omega)⟩)
    have h5 : (j : Int) < 0 ∨ ((n : Int) < 0 ∨ 3 < (n : Int)) ∨ ∃ m : Nat, (n : Int) = (m : Int) ∧ m ≤ 3 ∧ ((2 ^ m : Nat) : Int) ≤ (j : Int) := .inr (.inr ⟨n, rfl, by omega, Int.ofNat_le.2 (by omega)⟩)
    rw [partZ_no n j h5]; exact part_no n j h5 v w
set_option maxHeartbeats 1000000 in
set_option maxRecDepth 100000 in
theorem scopies_any {l : List Ent} {v : Value} (k : Int) (w : World) (hl : Els w v 6 Ent.cells l) (hn : l.length ≤ 1000) : Calls Try.prog 21 #[.int .i64 k, v] w (Ret (.int .i64 (copiesN k l : Int)) w) := by
  obtain ⟨ad, c, rfl, hc, he⟩ := hl.form
  have HE := Lib.hid he
  clear hl he
  go_enter Try.func21, Try.ntmps21
  go_wp2_with fail
  go_loopw [5, 7, 10] (fun vn _ vk wr => ∃ i : Nat, i ≤ l.length ∧ vk = .int .i64 i ∧ vn = .int .i64 (copiesN k (l.take i) : Int) ∧ Kept w wr) (fun _ _ k _ => l.length - (intOf k).toNat)
  case atStart => exact ⟨0, by omega, rfl, rfl, Kept.refl _⟩
  case round =>
    obtain ⟨i, hi', rfl, rfl, hkw⟩ := hrel
    have HX := Lib.hid hkw
    by_cases hlt : i < l.length
    · obtain ⟨b, o, rfl, hb, hcell⟩ := (HE.out.kept hkw).at_ (i) hlt
      obtain ⟨e, hee⟩ : ∃ e, (l)[i]'hlt = e := ⟨_, rfl⟩
      rw [hee] at hcell
      have c0 : wr.cell? ⟨b, o + i * 6, none⟩ = some (.int .u64 (hi e.x)) := hcell 0 (by omega)
      have c1 : wr.cell? ⟨b, o + i * 6 + 1, none⟩ = some (.int .u64 (lo e.x)) := hcell 1 (by omega)
      have c2 : wr.cell? ⟨b, o + i * 6 + 2, none⟩ = some (.int .u64 (hi e.m)) := hcell 2 (by omega)
      have c3 : wr.cell? ⟨b, o + i * 6 + 3, none⟩ = some (.int .u64 (lo e.m)) := hcell 3 (by omega)
      have c4 : wr.cell? ⟨b, o + i * 6 + 4, none⟩ = some (.int .i64 e.len) := hcell 4 (by omega)
      have c5 : wr.cell? ⟨b, o + i * 6 + 5, none⟩ = some (.int .i64 e.act) := hcell 5 (by omega)
      have Hee := Lib.hid hee
      clear hcell hee
      have hil : (i : Int) < (l.length : Int) := by omega
      have hst := copiesN_snoc k (l.take i) l[i]
      rw [← List.take_succ_eq_append_getElem hlt, Hee.out] at hst
      have hcl := Nat.le_trans (copiesN_le k (l.take i)) (Nat.mul_le_mul_left 8 (List.length_take_le i l))
      have hbl := bankZ_len k e.x e.m
      have hb := Lib.hid (fun w => sbanks_any k e.x e.m w)
      generalize copiesN k (l.take i) = N at *
      generalize bankZ k e.x e.m = L at *
      have HS := Lib.hid hst
      clear hst hkw Hee
      go_wp2_with (first | (go_at_call 9; refine (hb.out _).mono ?_; rintro e w1 hR; obtain ⟨a1, c1, rfl, hlc1, hown1, hels1⟩ := RetEls.out2 encN_len hR; have hk1 := Lib.hid hown1.1; clear hown1 hels1 hR))
      go_roundw
      case rel => exact ⟨i + 1, by omega, by go_num, by rw [HS.out]; congr 1; omega, (HX.out.trans (Kept.alloc (Kept.refl _) _)).trans hk1.out⟩
      case measure => simp [intOf]; omega
    · have hil : i = l.length := by omega
      subst hil
      rw [List.take_length]
      clear hkw hlt
      go_wp2_with fail
      go_ret
      exact Ret.of (rfl) (by simp (maxDischargeDepth := 99) [HX.out])
end Go.Proofs.Ytlmadimnoknheaa
