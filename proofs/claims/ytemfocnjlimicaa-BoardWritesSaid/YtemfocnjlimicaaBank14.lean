/- A bank behind writes, one by one. -/
import Derived.Test.YtemfocnjlimicaaAwake8
namespace Go.Proofs.Ytemfocnjlimicaa
open Go.RowKit Pg
def StepPost (wb : World) (g gr : Nat) (L : List Slot) (k : Nat) (e : Ending) (w2 : World) : Prop := ∃ (er : Int) (cnt : Int), e = .returned (.int .i64 er) ∧ 0 ≤ cnt ∧ cnt ≤ (k : Int) + 1 ∧ BankAt wb w2 g gr L cnt
theorem bdo_step {wb w : World} {g gr : Nat} {Z : List Slot} {l : List Wr} {k : Nat} {cnt : Int} (h : BankAt wb w g gr (applyS Z (l.take k)) cnt) (hk : k < l.length) (h0 : 0 ≤ cnt) (hc : cnt ≤ k) (h40 : k ≤ 500) (x : Wr) (hx : l[k] = x) :
    Calls Try.prog 18 #[.pointer (some ⟨g, 0, none⟩), wrv x] w (StepPost wb g gr (applyS Z (l.take (k + 1))) k) :=
  (bdo_any h h0 (by omega) x).mono fun _ _ ⟨he, _, hb⟩ => by
    have e : applyS Z (l.take (k + 1)) = putW (applyS Z (l.take k)) x := by rw [List.take_succ_eq_append_getElem hk, applyS_snoc, hx]
    rw [← e] at hb
    refine ⟨_, _, he, ?_, ?_, hb⟩ <;> split <;> omega
theorem run_make_refslots (n : Nat) (h : n ≤ 1000) (W : World) : (Instr.makeSlice 36 (.int .i64 (n : Int)) (.int .i64 (n : Int))).run Try.prog W = .ok (.slice (some ⟨W.heap.size, 0, none⟩) n n) (W.alloc (.cells ((List.replicate n z0).flatMap Slot.cells).toArray 84)) := by
  obtain ⟨i, hi, hz, hs, hb⟩ := parts_of info_refslot
  have := run_make (P := Try.prog) W 36 84 i _ Try.underlying36 hi hz .i64 .i64 (n : Int) (n : Int) (by omega) (by omega) (by rw [hb]; omega) (by omega)
  have hz0 : (Slot.cells z0).toArray = #[.bool false, .int .u64 0, .int .u64 0, .int .u64 0, .int .u64 0, .int .i64 0, .int .i64 0] := by kernel_rfl
  have hm := made_flat Slot.cells_len z0 n
  rw [hz0] at hm
  rw [this, Int.toNat_natCast, hs, ← hm]
  rfl
theorem own_ne {wb w w' : World} {g gr : Nat} {L : List Slot} {cnt : Int} {e : TypeId} {k n : Nat} {v : Value} {xs : List Value} (h : Own w w' e k v n xs) (hb : BankAt wb w g gr L cnt) : v.ownBlock ≠ some g ∧ v.ownBlock ≠ some gr := by
  have h1 := hb.blk.lt
  have h2 := (hb.own.2.lt gr rfl).2
  constructor <;> intro h3
  · have := (h.2.lt g h3).1; omega
  · have := (h.2.lt gr h3).1; omega
theorem Chg_blk {w w' : World} {g gr b : Nat} {t : TypeId} {cs : Array Value} (hb : Blk w b t cs) (h : Chg w w' g gr) (h1 : b ≠ g) (h2 : b ≠ gr) : Blk w' b t cs := h.blk hb h1 h2
/-- The same; what else stands. -/
def StepPostC (wb w : World) (g gr : Nat) (L : List Slot) (k : Nat) (e : Ending) (w2 : World) : Prop := ∃ (er : Int) (cnt : Int), e = .returned (.int .i64 er) ∧ 0 ≤ cnt ∧ cnt ≤ (k : Int) + 1 ∧ BankAt wb w2 g gr L cnt ∧ Chg w w2 g gr
theorem bdo_stepC {wb w : World} {g gr : Nat} {Z : List Slot} {l : List Wr} {k : Nat} {cnt : Int} (h : BankAt wb w g gr (applyS Z (l.take k)) cnt) (hk : k < l.length) (h0 : 0 ≤ cnt) (hc : cnt ≤ k) (h40 : k ≤ 500) (x : Wr) (hx : l[k] = x) :
    Calls Try.prog 18 #[.pointer (some ⟨g, 0, none⟩), wrv x] w (StepPostC wb w g gr (applyS Z (l.take (k + 1))) k) :=
  (bdo_any h h0 (by omega) x).mono fun _ _ ⟨he, hcg, hb⟩ => by
    have e : applyS Z (l.take (k + 1)) = putW (applyS Z (l.take k)) x := by rw [List.take_succ_eq_append_getElem hk, applyS_snoc, hx]
    rw [← e] at hb
    refine ⟨_, _, he, ?_, ?_, hb, hcg⟩ <;> split <;> omega
end Go.Proofs.Ytemfocnjlimicaa
namespace Pg
open Go
/-- What the last write has that lands in slot i. -/
def updW (n i : Nat) (ws : List Wr) (o : Option Slot) : Option Slot := ws.foldl (fun o x => if mayW x n = true ∧ x.at_.toNat = i then some x.s else o) o
theorem applyS_get (n i : Nat) (hi : i < n) (B : Option Slot) : ∀ (ws : List Wr) (L : List Slot) (o : Option Slot), L.length = n → L[i]? = o.or B → (applyS L ws)[i]? = (updW n i ws o).or B
  | [], L, o, _, h => h
  | x :: ws, L, o, hL, h => by
    show (applyS (putW L x) ws)[i]? = (updW n i ws (if mayW x n = true ∧ x.at_.toNat = i then some x.s else o)).or B
    refine applyS_get n i hi B ws _ _ (by rw [putW_len, hL]) ?_
    unfold putW
    rw [hL]
    cases hm : mayW x n
    · simpa using h
    · simp only [if_true, true_and]
      by_cases he : x.at_.toNat = i
      · subst he
        simp [hL, hi]
      · rw [if_neg he, List.getElem?_set_ne he]; exact h
theorem applyS_twice (L : List Slot) (ws : List Wr) : applyS (applyS L ws) ws = applyS L ws := by
  apply List.ext_getElem?
  intro i
  rcases Nat.lt_or_ge i L.length with hi | hi
  · have h1 := applyS_get L.length i hi L[i]? ws L none rfl rfl
    have h2 := applyS_get L.length i hi (applyS L ws)[i]? ws (applyS L ws) none (applyS_len ws L) rfl
    rw [h2, h1]
    cases updW L.length i ws none <;> rfl
  · rw [List.getElem?_eq_none (by rw [applyS_len, applyS_len]; exact hi), List.getElem?_eq_none (by rw [applyS_len]; exact hi)]
end Pg
namespace Pg
open Go
theorem els_one {w : World} {g : Nat} {t : TypeId} (e : Wr) (h : Blk w g t (Wr.cells e).toArray) : Els w (.slice (some ⟨g, 0, none⟩) 1 1) 8 Wr.cells [e] :=
  ⟨_, 1, rfl, Nat.le_refl _, fun _ => ⟨g, 0, rfl, h.lt, fun i hi j hj => by
    have : i = 0 := by simp at hi; omega
    subst this
    rw [Nat.zero_mul, Nat.zero_add, h.cell]
    simp⟩⟩
theorem els_head {w : World} {a : Option Addr} {c : Nat} {e : Wr} (h : Els w (.slice a [e].length c) 8 Wr.cells [e]) : ∃ b o, a = some ⟨b, o, none⟩ ∧ b < w.heap.size ∧ ∀ j, j < 8 → w.cell? ⟨b, o + j, none⟩ = (Wr.cells e)[j]? := by
  obtain ⟨b, o, ha, hb, hc⟩ := h.at_ 0 (by simp)
  refine ⟨b, o, ha, hb, fun j hj => ?_⟩
  have := hc j hj
  rwa [Nat.zero_mul, Nat.add_zero] at this
theorem els_oneS {w : World} {g : Nat} {t : TypeId} (e : Slot) (h : Blk w g t (Slot.cells e).toArray) : Els w (.slice (some ⟨g, 0, none⟩) 1 1) 7 Slot.cells [e] :=
  ⟨_, 1, rfl, Nat.le_refl _, fun _ => ⟨g, 0, rfl, h.lt, fun i hi j hj => by
    have : i = 0 := by simp at hi; omega
    subst this
    rw [Nat.zero_mul, Nat.zero_add, h.cell]
    simp⟩⟩
theorem idx_one (p : Slot → Bool) (s : Slot) : idxI p [s] = if p s then 0 else -1 := by
  unfold idxI
  cases h : p s <;> simp [h, List.findIdx?_cons]
/-- One slot written: what is told of an address that neither matches is as it was. -/
theorem tellS_set (l : List Slot) (j : Nat) (hj : j < l.length) (s : Slot) (a : B) (h1 : matchS a l[j] = false) (h2 : matchS a s = false) : tellS (l.set j s) a = tellS l a := by
  have hlen : (l.set j s).length = l.length := List.length_set ..
  have key : ∀ i (hi : i < l.length), matchS a ((l.set j s)[i]'(by rw [hlen]; exact hi)) = matchS a l[i] := fun i hi => by
    rw [List.getElem_set]
    by_cases h : j = i
    · subst h; rw [if_pos rfl, h1, h2]
    · rw [if_neg h]
  have hidx : idxI (matchS a) (l.set j s) = idxI (matchS a) l := by
    rcases idxI_cases (matchS a) l with ⟨e, hn⟩ | ⟨k, hk, e, hp, hn⟩
    · rw [e]; exact idxI_miss _ _ fun i hi => by rw [key i (by rw [← hlen]; exact hi)]; exact hn i _
    · rw [e]; exact idxI_hit _ _ k (by rw [hlen]; exact hk) (by rw [key k hk]; exact hp) fun i hi hik => by rw [key i (by rw [← hlen]; exact hi)]; exact hn i _ hik
  unfold tellS
  rw [hidx]
  rcases idxI_cases (matchS a) l with ⟨e, _⟩ | ⟨k, hk, e, hp, _⟩
  · rw [e]; rfl
  · rw [e, Int.toNat_natCast]
    have hjk : j ≠ k := fun h => by subst h; rw [h1] at hp; cases hp
    rw [List.getElem?_set_ne hjk]
end Pg
