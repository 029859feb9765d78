/- Regions that draw their order and in which variables are made and written: each variable's block is laid at some moment, each is written at some later one; all else is quiet. -/
import Derived.Test.YtemfocnjlimicaaKit1
namespace Pg
open Go Go.RowKit Go.Sort

/-- The later worlds of W in which I holds. -/
structure Regs (I : World → Prop) (W : World) where
  p : Regrown
  h : I (ext W p)
def Stable (I : World → Prop) : Prop := ∀ w q, I w → I (ext w q)
theorem calls_reg {I : World → Prop} {W : World} (hst : Stable I) {P : Program} {f : FuncId} {args : Array Value} {v : Value} {t : Regs I W} (h : Calls P f args (ext W t.p) (Ret v (ext W t.p))) :
    Calls P f args (ext W t.p) fun e w'' => e = .returned v ∧ ∃ t' : Regs I W, w'' = ext W t'.p :=
  h.mono fun _ _ ⟨he, q, hq⟩ => ⟨he, by
    obtain ⟨r, hr⟩ := ext_ext W t.p q
    exact ⟨⟨r, hr ▸ hst _ q t.h⟩, hq.trans hr⟩⟩
theorem Kept.setRow {w0 w : World} (h : Kept w0 w) {g : Nat} (hg : w0.heap.size ≤ g) (cs : Array Value) : Kept w0 (w.setRow g cs) :=
  ⟨h.os, h.tape, h.output, by simpa [World.setRow] using h.size, fun k hk => by
    rw [← h.block k hk]
    simp only [World.setRow, Array.getElem?_modify]
    rw [if_neg (by omega)]⟩
theorem Blk.setRow_far {w : World} {g g' : Nat} {t : TypeId} {cs : Array Value} (h : Blk w g t cs) (hne : g' ≠ g) (cs' : Array Value) : Blk (w.setRow g' cs') g t cs := by
  unfold Blk at *
  simp only [World.setRow, Array.getElem?_modify]
  rw [if_neg hne]; exact h
theorem Blk.setRow_ {w : World} {g : Nat} {t : TypeId} {cs : Array Value} (h : Blk w g t cs) (cs' : Array Value) : Blk (w.setRow g cs') g t cs' := setRow_heap w g cs cs' t (0, 0) h

theorem Blk.two {w : World} {g : Nat} {t : TypeId} {a b : Value} (h : Blk w g t #[a, b]) : w.cell? ⟨g, 0, none⟩ = some a ∧ w.cell? ⟨g, 1, none⟩ = some b ∧ g < w.heap.size := ⟨h.cell 0, h.cell 1, h.lt⟩
theorem Blk.three {w : World} {g : Nat} {t : TypeId} {a b c : Value} (h : Blk w g t #[a, b, c]) : w.cell? ⟨g, 0, none⟩ = some a ∧ w.cell? ⟨g, 1, none⟩ = some b ∧ w.cell? ⟨g, 2, none⟩ = some c ∧ g < w.heap.size := ⟨h.cell 0, h.cell 1, h.cell 2, h.lt⟩
theorem Blk.four {w : World} {g : Nat} {t : TypeId} {a b c d : Value} (h : Blk w g t #[a, b, c, d]) : w.cell? ⟨g, 0, none⟩ = some a ∧ w.cell? ⟨g, 1, none⟩ = some b ∧ w.cell? ⟨g, 2, none⟩ = some c ∧ w.cell? ⟨g, 3, none⟩ = some d ∧ g < w.heap.size := ⟨h.cell 0, h.cell 1, h.cell 2, h.cell 3, h.lt⟩

section
variable {P : Program} {md : Region.Mode} {ops : Array Oper}
def lexI (md : Region.Mode) (ops : Array Oper) : List Nat → Array Bool → Bool
  | [], listed => (Region.ready md ops listed).isEmpty
  | i :: qs, listed => (Region.ready md ops listed).contains i && Region.free md ops listed i && lexI md ops qs (listed.setIfInBounds i true)

theorem anyQ_lex {C : World → Prop} {Q : Act → Prop} (hs : Region.noSelect ops = true) : ∀ (qs : List Nat) (l : List Oper) (listed : Array Bool) (a : Act), l.map some = qs.map (fun i => ops[i]?) → lexI md ops qs listed = true →
    wpQuiet P ops C Q l a → wpAnyQ P md ops C Q qs.length listed a
  | [], [], _, _, _, hB, h => ⟨by simpa [lexI] using hB, h⟩
  | [], _ :: _, _, _, hl, _, _ => by simp at hl
  | _ :: _, [], _, _, hl, _, _ => by simp at hl
  | i :: qs, o :: l, listed, a, hl, hB, h => by
    simp only [List.map_cons, List.cons.injEq] at hl
    simp only [lexI, Bool.and_eq_true] at hB
    obtain ⟨⟨hr, hf⟩, hB'⟩ := hB
    have h0 : ops[i]? = some o := hl.1.symm
    have hst : qOp P ops C i (wpQuiet P ops C Q l) a := by unfold qOp; simp only [h0]; exact h
    obtain ⟨v, hy, hK⟩ := yieldsIn_of_qOp h0 hst
    exact wpAnyQ_first h0 (Region.noSelect_spec hs) _ listed a (fun j oj hj hne hun hno => Region.free_spec h0 hf j oj hj hne hun hno) (by simpa using hr) hy (anyQ_lex hs qs l _ _ hl.2 hB' hK)

theorem put_tmps_ne {a : Act} {x : Option Tmp} {v : Value} {d : Nat} (h : x ≠ some d) : (a.put x v).tmps[d]? = a.tmps[d]? := by
  cases x with
  | none => rfl
  | some y => exact Array.getElem?_setIfInBounds_ne (fun e => h (by rw [e]))
theorem put_tmps_eq {a : Act} {v : Value} {d : Nat} (h : d < a.tmps.size) : (a.put (some d) v).tmps[d]? = some v := by
  simp [Act.put, h]
theorem put_size (a : Act) (x : Option Tmp) (v : Value) : (a.put x v).tmps.size = a.tmps.size := by
  cases x <;> simp [Act.put]
/-- What a slot holds that no operation to come writes. -/
theorem anyQ_slot {C : World → Prop} {A : Act} {d : Nat} : ∀ (f : Nat) (listed : Array Bool) (a : Act), wpAnyQ P md ops C (fun a' => a' = A) f listed a →
    (∀ j o, ops[j]? = some o → listed.getD j true = false → o.dst ≠ some d) → A.tmps[d]? = a.tmps[d]?
  | 0, _, _, h, _ => by rw [h.2]
  | f + 1, listed, a, h, hd => by
    cases hr : Region.ready md ops listed with
    | nil => rw [h.1 hr]
    | cons i is =>
      have hi : i ∈ Region.ready md ops listed := by rw [hr]; simp
      obtain ⟨hun, o, ho, _⟩ := mem_ready.1 hi
      obtain ⟨v, _, hK⟩ := yieldsIn_of_qOp ho (h.2 i hi)
      rw [anyQ_slot f _ _ hK fun j oj hj hun' => hd j oj hj (by
        by_cases hij : i = j
        · subst hij; exact hun
        · rwa [getD_set_ne true hij] at hun')]
      exact put_tmps_ne (hd i o ho hun)

/-- A variable that the region makes and writes: the operation that lays its block, the one that writes it, its slot, the value's slot, its type, what it holds at first. -/
structure Vari where
  ia : Nat
  is : Nat
  d : Nat
  s : Nat
  t : TypeId
  z : Array Value

def isAlloc (o : Oper) : Option (Nat × TypeId) := match o.op, o.dst, o.guard with | .alloc t, some d, none => some (d, t) | _, _, _ => none
def isStore (o : Oper) : Option (TypeId × Nat × Nat) := match o.op, o.dst, o.guard with | .store t (.tmp d) (.tmp s), none, none => some (t, d, s) | _, _, _ => none
theorem isAlloc_spec {o : Oper} {d : Nat} {t : TypeId} (h : isAlloc o = some (d, t)) : o.op = .alloc t ∧ o.dst = some d ∧ o.guard = none := by
  unfold isAlloc at h; split at h <;> simp_all
theorem isStore_spec {o : Oper} {d s : Nat} {t : TypeId} (h : isStore o = some (t, d, s)) : o.op = .store t (.tmp d) (.tmp s) ∧ o.dst = none ∧ o.guard = none := by
  unfold isStore at h; split at h <;> simp_all
def puts (done : List (Nat × Nat)) (a : Act) : Act := done.foldr (fun x a => a.put (some x.1) (.pointer (some ⟨x.2, 0, none⟩))) a
theorem puts_cons (x : Nat × Nat) (done : List (Nat × Nat)) (a : Act) : puts (x :: done) a = (puts done a).put (some x.1) (.pointer (some ⟨x.2, 0, none⟩)) := rfl
theorem puts_size (a : Act) : ∀ done, (puts done a).tmps.size = a.tmps.size
  | [] => rfl
  | x :: done => by rw [puts_cons, put_size, puts_size a done]
theorem puts_put (a : Act) {x : Option Tmp} (v : Value) : ∀ done : List (Nat × Nat), (∀ y ∈ done, x ≠ some y.1) → puts done (a.put x v) = (puts done a).put x v
  | [], _ => rfl
  | y :: done, h => by
    rw [puts_cons, puts_cons, puts_put a v done fun z hz => h z (by simp [hz])]
    exact Act.put_comm _ _ _ fun d hd e => h y (by simp) (by rw [hd]; exact e.symm)
theorem puts_ne (a : Act) {d : Nat} : ∀ done : List (Nat × Nat), (∀ y ∈ done, y.1 ≠ d) → (puts done a).tmps[d]? = a.tmps[d]?
  | [], _ => rfl
  | y :: done, h => by
    rw [puts_cons, put_tmps_ne (fun e => h y (by simp) (by injection e))]
    exact puts_ne a done fun z hz => h z (by simp [hz])
theorem puts_mem (a : Act) {d g : Nat} : ∀ done : List (Nat × Nat), (d, g) ∈ done → (done.map (·.1)).Nodup → d < a.tmps.size → (puts done a).tmps[d]? = some (.pointer (some ⟨g, 0, none⟩))
  | [], h, _, _ => by simp at h
  | y :: done, h, hn, hd => by
    rw [puts_cons]
    simp only [List.map_cons, List.nodup_cons] at hn
    rcases List.mem_cons.1 h with h | h
    · subst h; exact put_tmps_eq (by rw [puts_size]; exact hd)
    · rw [put_tmps_ne (fun e => hn.1 (List.mem_map.2 ⟨(d, g), h, by injection e with e; exact e.symm⟩))]
      exact puts_mem a done h hn.2 hd
theorem execOp_puts (o : Oper) (hs : ∀ cs b, o.op ≠ .select cs b) (a : Act) : ∀ done : List (Nat × Nat), (∀ y ∈ done, y.1 ∉ o.looksAt ops) → execOp (puts done a).eval o = execOp a.eval o
  | [], _ => rfl
  | y :: done, h => by
    rw [puts_cons, execOp_put o hs _ _ _ fun d hd => by injection hd with hd; subst hd; exact h y (by simp)]
    exact execOp_puts o hs a done fun z hz => h z (by simp [hz])
theorem wanted_puts (o : Oper) (a : Act) : ∀ done : List (Nat × Nat), (∀ y ∈ done, y.1 ∉ o.looksAt ops) → Region.wanted o (yielded ops (puts done a).tmps) = Region.wanted o (yielded ops a.tmps)
  | [], _ => rfl
  | y :: done, h => by
    rw [puts_cons, wanted_put o _ _ _ fun d hd => by injection hd with hd; subst hd; exact h y (by simp)]
    exact wanted_puts o a done fun z hz => h z (by simp [hz])

/-- What is asked of the operations. -/
structure Fits (P : Program) (md : Region.Mode) (ops : Array Oper) (vs : List Vari) (N : Nat) : Prop where
  sel : Region.noSelect ops = true
  order : ∀ i o, ops[i]? = some o → ∀ e ∈ o.after, Region.binds md e = true → e.on < i
  quiet : ∀ i o, ops[i]? = some o → (∀ v ∈ vs, i ≠ v.ia ∧ i ≠ v.is) → ∃ d, o.dst = some d ∧ d < N ∧ (∀ v ∈ vs, v.d ≠ d ∧ v.d ∉ o.looksAt ops) ∧
    (∀ j o', ops[j]? = some o' → j ≠ i → o'.dst ≠ some d) ∧ ∀ v ∈ vs, v.s = d → ∃ os, ops[v.is]? = some os ∧ ∃ e ∈ os.after, Region.binds md e = true ∧ e.on = i
  alloc : ∀ v ∈ vs, ∃ o, ops[v.ia]? = some o ∧ isAlloc o = some (v.d, v.t)
  store : ∀ v ∈ vs, ∃ o, ops[v.is]? = some o ∧ isStore o = some (v.t, v.d, v.s) ∧ ∃ e ∈ o.after, Region.binds md e = true ∧ e.on = v.ia
  inj : ∀ v ∈ vs, ∀ u ∈ vs, (v.ia = u.ia ∨ v.is = u.is ∨ v.d = u.d → v = u) ∧ v.ia ≠ u.is ∧ v.s ≠ u.d
  range : ∀ v ∈ vs, v.d < N

/-- How far a run of the region has come. -/
structure State (P : Program) (md : Region.Mode) (ops : Array Oper) (vs : List Vari) (W : World) (A : Act) (N : Nat) (R : Array Bool) (w : World) where
  f : Nat
  V : Array Bool
  aV : Act
  done : List (Nat × Nat)
  sto : List Nat
  walk : ∀ I : World → Prop, Stable I → Nonempty (Regs I W) → wpAnyQ P md ops (fun w' => ∃ t : Regs I W, w' = ext W t.p) (fun a' => a' = A) f V aV
  sizeR : R.size = ops.size
  sizeV : V.size = ops.size
  same : ∀ j, (∀ v ∈ vs, j ≠ v.ia ∧ j ≠ v.is) → ∀ b, V.getD j b = R.getD j b
  special : ∀ v ∈ vs, V.getD v.ia false = true ∧ V.getD v.is false = true
  laid : ∀ v ∈ vs, (R.getD v.ia true = true ↔ v.d ∈ done.map (·.1))
  written : ∀ v ∈ vs, (R.getD v.is true = true ↔ v.d ∈ sto)
  slots : ∀ x ∈ done, ∃ v ∈ vs, v.d = x.1
  nodup : (done.map (·.1)).Nodup
  behind : ∀ d ∈ sto, d ∈ done.map (·.1)
  size : aV.tmps.size = N
  world : Kept W w
  fresh : ∀ x ∈ done, W.heap.size ≤ x.2
  apart : (done.map (·.2)).Nodup
  holds : ∀ v ∈ vs, ∀ g, (v.d, g) ∈ done → Blk w g v.t (if v.d ∈ sto then (A.tmps.getD v.s undef).cells else v.z)

theorem getD_tf {V : Array Bool} {j : Nat} (h : V.getD j false = true) : V.getD j true = true := by
  cases e : V[j]? <;> simp [e] at h ⊢; exact h
theorem getD_some {R : Array Bool} {j : Nat} (h : R.getD j true = false) : R[j]? = some false := by
  cases e : R[j]? <;> simp [e] at h ⊢; exact h
theorem count_step {R : Array Bool} {i : Nat} (h : R.getD i true = false) : (R.setIfInBounds i true).toList.count false + 1 = R.toList.count false := by
  have h1 := getD_some h
  obtain ⟨hi, h2⟩ := Array.getElem?_eq_some_iff.1 h1
  have h3 : R.toList[i]'(by simpa using hi) = false := by simpa using h2
  have h4 : 0 < R.toList.count false := List.count_pos_iff.2 (by rw [← h3]; exact List.getElem_mem _)
  rw [Array.toList_setIfInBounds, List.count_set (by simpa using hi), h3, if_pos (by decide), if_neg (by decide)]
  omega
theorem nodup_snd {d d' g : Nat} : ∀ done : List (Nat × Nat), (done.map (·.2)).Nodup → (d, g) ∈ done → (d', g) ∈ done → d = d'
  | [], _, h, _ => by simp at h
  | y :: done, hn, h, h' => by
    simp only [List.map_cons, List.nodup_cons] at hn
    rcases List.mem_cons.1 h with h | h <;> rcases List.mem_cons.1 h' with h' | h'
    · rw [← h] at h'; injection h' with h1 _; exact h1.symm
    · exact absurd (List.mem_map.2 ⟨_, h', by rw [← h]⟩) hn.1
    · exact absurd (List.mem_map.2 ⟨_, h, by rw [← h']⟩) hn.1
    · exact nodup_snd done hn.2 h h'
theorem ready_some {vs : List Vari} {N : Nat} (F : Fits P md ops vs N) {R : Array Bool} (hs : R.size = ops.size) : ∀ j, R.getD j true = false → ∃ i, i ∈ Region.ready md ops R := by
  intro j
  induction j using Nat.strongRecOn with
  | _ j ih =>
    intro hj
    obtain ⟨hlt, _⟩ := Array.getElem?_eq_some_iff.1 (getD_some hj)
    obtain ⟨o, ho⟩ : ∃ o, ops[j]? = some o := ⟨ops[j]'(by omega), by simp [show j < ops.size by omega]⟩
    by_cases hall : ∀ e ∈ o.after, Region.binds md e = true → R.getD e.on false = true
    · exact ⟨j, mem_ready.2 ⟨hj, o, ho, hall⟩⟩
    · simp only [Classical.not_forall] at hall
      obtain ⟨e, he, hb, hne⟩ := hall
      have hlt' := F.order j o ho e he hb
      refine ih e.on hlt' ?_
      have h5 : e.on < R.size := by omega
      simp [h5] at hne ⊢
      exact hne

theorem sim {vs : List Vari} {W : World} {A : Act} {N : Nat} (F : Fits P md ops vs N) {Q' : Exit → Act → World → Prop}
    (hal : ∀ v ∈ vs, ∀ o, ops[v.ia]? = some o → ∀ (a : Act) (w : World), (execOp a.eval o).run P w = .ok (.value (.pointer (some ⟨w.heap.size, 0, none⟩))) (w.alloc (.cells v.z v.t)))
    (hva : ∀ v ∈ vs, ∃ cs, A.tmps.getD v.s undef = .agg cs ∧ v.z.size = cs.size ∧ cs.all (·.oneCell') = true ∧ (P.info? v.t).map (·.size) = some cs.size)
    (hfin : ∀ (done : List (Nat × Nat)) (w : World), Kept W w → (∀ v ∈ vs, v.d ∈ done.map (·.1)) → (∀ x ∈ done, ∃ v ∈ vs, v.d = x.1) → (done.map (·.1)).Nodup → (∀ x ∈ done, W.heap.size ≤ x.2) → (done.map (·.2)).Nodup →
      (∀ v ∈ vs, ∀ g, (v.d, g) ∈ done → Blk w g v.t (A.tmps.getD v.s undef).cells) → Q' .normal (puts done A) w) :
    ∀ (k : Nat) (R : Array Bool) (w : World), R.toList.count false = k → ∀ S : State P md ops vs W A N R w, wpAny P md ops Q' k R (puts S.done S.aV) w := by
  intro k
  induction k with
  | zero =>
    intro R w hk S
    have hR : ∀ j, R.getD j true = true := fun j => by
      cases e : R.getD j true
      · have := count_step e; omega
      · rfl
    have hV : Region.ready md ops S.V = [] := by
      apply List.eq_nil_iff_forall_not_mem.2
      intro i hi
      obtain ⟨hun, _⟩ := mem_ready.1 hi
      by_cases hsp : ∀ v ∈ vs, i ≠ v.ia ∧ i ≠ v.is
      · rw [S.same i hsp, hR i] at hun; cases hun
      · simp only [Classical.not_forall, Classical.not_and_iff_not_or_not, Classical.not_not] at hsp
        obtain ⟨v, hv, h | h⟩ := hsp
        · rw [h, getD_tf (S.special v hv).1] at hun; cases hun
        · rw [h, getD_tf (S.special v hv).2] at hun; cases hun
    obtain ⟨p, hp⟩ := ext_of S.world
    have hw := S.walk (fun _ => True) (fun _ _ _ => trivial) ⟨⟨p, trivial⟩⟩
    have hA : S.aV = A := by
      cases hf : S.f with
      | zero => rw [hf] at hw; exact hw.2
      | succ f => rw [hf] at hw; exact hw.1 hV
    refine ⟨List.eq_nil_iff_forall_not_mem.2 fun i hi => (by have := (mem_ready.1 hi).1; rw [hR i] at this; cases this), ?_⟩
    rw [hA]
    refine hfin S.done w S.world (fun v hv => (S.laid v hv).1 (hR _)) S.slots S.nodup S.fresh S.apart fun v hv g hg => ?_
    have := S.holds v hv g hg
    rwa [if_pos ((S.written v hv).1 (hR _))] at this
  | succ k ih =>
    intro R w hk S
    have hne : ∃ j, R.getD j true = false := by
      have : false ∈ R.toList := List.count_pos_iff.1 (by omega)
      obtain ⟨j, hj, he⟩ := List.getElem_of_mem this
      have hj' : j < R.size := by simpa using hj
      exact ⟨j, by simp [hj'] at he ⊢; exact he⟩
    obtain ⟨j0, hj0⟩ := hne
    obtain ⟨i0, hi0⟩ := ready_some F S.sizeR j0 hj0
    refine ⟨fun h0 => (by rw [h0] at hi0; cases hi0), fun i hi => ?_⟩
    obtain ⟨hun, o, ho, hall⟩ := mem_ready.1 hi
    have hcnt := count_step hun
    have hset : ∀ j, j ≠ i → ∀ b, (R.setIfInBounds i true).getD j b = R.getD j b := fun j hj b => getD_set_ne b (Ne.symm hj)
    have hseti : (R.setIfInBounds i true).getD i true = true := by
      obtain ⟨hlt, _⟩ := Array.getElem?_eq_some_iff.1 (getD_some hun)
      simp [hlt]
    by_cases hsp : ∀ v ∈ vs, i ≠ v.ia ∧ i ≠ v.is
    · -- a quiet one
      obtain ⟨d, hd, hdN, hdv, hdo, _⟩ := F.quiet i o ho hsp
      have hunV : S.V.getD i true = false := by rw [S.same i hsp]; exact hun
      have hrV : i ∈ Region.ready md ops S.V := mem_ready.2 ⟨hunV, o, ho, fun e he hb => by
        by_cases hse : ∀ v ∈ vs, e.on ≠ v.ia ∧ e.on ≠ v.is
        · rw [S.same _ hse]; exact hall e he hb
        · simp only [Classical.not_forall, Classical.not_and_iff_not_or_not, Classical.not_not] at hse
          obtain ⟨v, hv, h | h⟩ := hse
          · rw [h]; exact (S.special v hv).1
          · rw [h]; exact (S.special v hv).2⟩
      obtain ⟨p, hp⟩ := ext_of S.world
      have hwT := S.walk (fun _ => True) (fun _ _ _ => trivial) ⟨⟨p, trivial⟩⟩
      obtain ⟨f, hf⟩ : ∃ f, S.f = f + 1 := by
        cases hf : S.f with
        | zero => rw [hf] at hwT; rw [hwT.1] at hrV; cases hrV
        | succ f => exact ⟨f, rfl⟩
      -- its value is what the slot holds at the end
      have hv : ∀ I : World → Prop, Stable I → Nonempty (Regs I W) → YieldsIn P ops (fun w' => ∃ t : Regs I W, w' = ext W t.p) o (A.tmps.getD d undef) S.aV ∧
          wpAnyQ P md ops (fun w' => ∃ t : Regs I W, w' = ext W t.p) (fun a' => a' = A) f (S.V.setIfInBounds i true) (S.aV.put o.dst (A.tmps.getD d undef)) := fun I hI hne => by
        have h := S.walk I hI hne
        rw [hf] at h
        obtain ⟨v, hy, hK⟩ := yieldsIn_of_qOp ho (h.2 i hrV)
        have hsl := anyQ_slot (d := d) f _ _ hK fun j oj hj hunj => hdo j oj hj fun hji => by
          subst hji
          obtain ⟨hlt, _⟩ := Array.getElem?_eq_some_iff.1 (getD_some hunV)
          simp [hlt] at hunj
        rw [hd, put_tmps_eq (by rw [S.size]; exact hdN)] at hsl
        have : A.tmps.getD d undef = v := by simp [hsl]
        rw [this]; exact ⟨hy, hK⟩
      let J : World → Prop := fun w => Kept W w ∧ ∀ v ∈ vs, ∀ g, (v.d, g) ∈ S.done → Blk w g v.t (if v.d ∈ S.sto then (A.tmps.getD v.s undef).cells else v.z)
      have hJ : Stable J := fun w q h => ⟨h.1.ext q, fun v hv g hg => Blk.ext (h.2 v hv g hg) q⟩
      have hJw : J w := ⟨S.world, S.holds⟩
      have hJn : Nonempty (Regs J W) := ⟨⟨p, hp ▸ hJw⟩⟩
      have hnl : ∀ y ∈ S.done, y.1 ∉ o.looksAt ops := fun y hy => by
        obtain ⟨v, hv, e⟩ := S.slots y hy
        rw [← e]; exact (hdv v hv).2
      have hns : ∀ cs b, o.op ≠ .select cs b := fun cs b => Region.noSelect_spec F.sel i o cs b ho
      have hyR : YieldsIn P ops (fun w' => ∃ t : Regs J W, w' = ext W t.p) o (A.tmps.getD d undef) (puts S.done S.aV) := by
        exact (hv J hJ hJn).1.of_same (execOp_puts o hns _ _ hnl) (wanted_puts o _ _ hnl)
      refine wpOp_of_qOp (C := fun w' => ∃ t : Regs J W, w' = ext W t.p) (K := fun a' => a' = (puts S.done S.aV).put o.dst (A.tmps.getD d undef)) ⟨⟨p, hp ▸ hJw⟩, hp⟩ (fun a' w' hw' ha' => ?_) (hyR.qOp ho rfl)
      subst ha'
      obtain ⟨t, rfl⟩ := hw'
      rw [← puts_put _ _ _ fun y hy e => by
        obtain ⟨v, hv, e2⟩ := S.slots y hy
        rw [hd] at e
        injection e with e
        exact (hdv v hv).1 (by rw [e2, e])]
      refine ih _ _ (by omega) { f := f, V := S.V.setIfInBounds i true, aV := S.aV.put o.dst (A.tmps.getD d undef), done := S.done, sto := S.sto, walk := fun I hI hne => (hv I hI hne).2, sizeR := by simp [S.sizeR], sizeV := by simp [S.sizeV], same := ?_, special := ?_, laid := ?_, written := ?_, slots := S.slots, nodup := S.nodup, behind := S.behind, size := by rw [put_size]; exact S.size, world := t.h.1, fresh := S.fresh, apart := S.apart, holds := t.h.2 }
      · intro j hj b
        by_cases hji : j = i
        · subst hji
          obtain ⟨h1, _⟩ := Array.getElem?_eq_some_iff.1 (getD_some hunV)
          obtain ⟨h2, _⟩ := Array.getElem?_eq_some_iff.1 (getD_some hun)
          simp [h1, h2]
        · rw [hset j hji, getD_set_ne b (Ne.symm hji)]; exact S.same j hj b
      · intro v hv
        rw [getD_set_ne _ (hsp v hv).1, getD_set_ne _ (hsp v hv).2]; exact S.special v hv
      · intro v hv
        rw [hset _ (Ne.symm (hsp v hv).1)]; exact S.laid v hv
      · intro v hv
        rw [hset _ (Ne.symm (hsp v hv).2)]; exact S.written v hv
    · simp only [Classical.not_forall, Classical.not_and_iff_not_or_not, Classical.not_not] at hsp
      obtain ⟨v, hv, hia | his⟩ := hsp
      · -- a block is laid
        subst hia
        obtain ⟨o', ho', hoa⟩ := F.alloc v hv
        rw [ho] at ho'; injection ho' with ho'; subst ho'
        obtain ⟨_, hdst, hg⟩ := isAlloc_spec hoa
        have hnd : v.d ∉ S.done.map (·.1) := fun h => by rw [(S.laid v hv).2 h] at hun; cases hun
        have hlt : ∀ u ∈ vs, ∀ g, (u.d, g) ∈ S.done → g < w.heap.size := fun u hu g hg => (S.holds u hu g hg).lt
        have hlt' : ∀ x ∈ S.done, x.2 < w.heap.size := fun x hx => by
          obtain ⟨u, hu, e⟩ := S.slots x hx
          exact hlt u hu x.2 (by rw [e]; exact hx)
        unfold wpOp
        simp only [ho]
        rw [if_pos (by unfold Region.wanted; rw [hg])]
        left
        unfold Oper.wp
        rw [hal v hv o ho]
        simp only [Oper.upon]
        rw [hdst, ← puts_cons (v.d, w.heap.size)]
        refine ih _ _ (by omega) { f := S.f, V := S.V, aV := S.aV, done := (v.d, w.heap.size) :: S.done, sto := S.sto, walk := S.walk, sizeR := by simp [S.sizeR], sizeV := S.sizeV, same := ?_, special := S.special, laid := ?_, written := ?_, slots := ?_, nodup := by simpa using ⟨fun x hx => hnd (List.mem_map.2 ⟨_, hx, rfl⟩), S.nodup⟩, behind := fun d hd => by simp only [List.map_cons, List.mem_cons]; exact .inr (S.behind d hd), size := S.size, world := S.world.alloc _, fresh := ?_, apart := ?_, holds := ?_ }
        · intro j hj b
          rw [hset j (hj v hv).1]; exact S.same j hj b
        · intro u hu
          by_cases he : u.ia = v.ia
          · obtain rfl := (F.inj u hu v hv).1 (.inl he)
            rw [hseti]; simp
          · rw [hset _ he, S.laid u hu]
            simp only [List.map_cons, List.mem_cons]
            constructor
            · exact fun h => .inr h
            · rintro (h | h)
              · exact absurd (congrArg Vari.ia ((F.inj u hu v hv).1 (.inr (.inr h)))) he
              · exact h
        · intro u hu
          rw [hset _ (fun h => (F.inj v hv u hu).2.1 h.symm)]; exact S.written u hu
        · intro x hx
          rcases List.mem_cons.1 hx with rfl | hx
          · exact ⟨v, hv, rfl⟩
          · exact S.slots x hx
        · intro x hx
          rcases List.mem_cons.1 hx with rfl | hx
          · exact S.world.size_le
          · exact S.fresh x hx
        · simp only [List.map_cons, List.nodup_cons]
          refine ⟨fun h => ?_, S.apart⟩
          obtain ⟨x, hx, e⟩ := List.mem_map.1 h
          have := hlt' x hx
          omega
        · intro u hu g hg
          rcases List.mem_cons.1 hg with h | h
          · injection h with h1 h2
            obtain rfl := (F.inj u hu v hv).1 (.inr (.inr h1))
            rw [if_neg (fun hs => hnd (S.behind _ hs)), h2]
            exact Blk.new _ _ _
          · exact Blk.alloc (S.holds u hu g h) _
      · -- a variable is written
        subst his
        obtain ⟨o', ho', hos, e, he, heb, heo⟩ := F.store v hv
        rw [ho] at ho'; injection ho' with ho'; subst ho'
        obtain ⟨hop, hdst, hg⟩ := isStore_spec hos
        have hin : v.d ∈ S.done.map (·.1) := (S.laid v hv).1 (getD_tf (by rw [← heo]; exact hall e he heb))
        obtain ⟨x, hx, hxe⟩ := List.mem_map.1 hin
        obtain ⟨d, g⟩ := x
        simp only at hxe
        subst hxe
        have hns : v.d ∉ S.sto := fun h => by rw [(S.written v hv).2 h] at hun; cases hun
        have hblk := S.holds v hv g hx
        rw [if_neg hns] at hblk
        obtain ⟨cs, hcs, hz, h1, hinfo⟩ := hva v hv
        obtain ⟨p, hp⟩ := ext_of S.world
        have hslot := anyQ_slot (d := v.s) _ _ _ (S.walk (fun _ => True) (fun _ _ _ => trivial) ⟨⟨p, trivial⟩⟩) fun j oj hj hunj hdj => by
          by_cases hsp : ∀ u ∈ vs, j ≠ u.ia ∧ j ≠ u.is
          · obtain ⟨d', hd', _, _, _, hed⟩ := F.quiet j oj hj hsp
            rw [hdj] at hd'
            injection hd' with hd'
            obtain ⟨os, hos', e', he', heb', heo'⟩ := hed v hv hd'
            rw [ho] at hos'; injection hos' with hos'; subst hos'
            have h2 := getD_tf (hall e' he' heb')
            rw [heo'] at h2
            rw [S.same j hsp, h2] at hunj; cases hunj
          · simp only [Classical.not_forall, Classical.not_and_iff_not_or_not, Classical.not_not] at hsp
            obtain ⟨u, hu, h | h⟩ := hsp
            · rw [h, getD_tf (S.special u hu).1] at hunj; cases hunj
            · rw [h, getD_tf (S.special u hu).2] at hunj; cases hunj
        have hval : (puts S.done S.aV).eval (.tmp v.s) = .agg cs := by
          show (puts S.done S.aV).tmps.getD v.s undef = _
          rw [← hcs]
          simp only [Array.getD_eq_getD_getElem?]
          rw [puts_ne _ _ fun y hy hye => by
            obtain ⟨u, hu, e2⟩ := S.slots y hy
            exact (F.inj v hv u hu).2.2 (by rw [e2, hye]), hslot]
        have hptr : (puts S.done S.aV).eval (.tmp v.d) = .pointer (some ⟨g, 0, none⟩) := by
          show (puts S.done S.aV).tmps.getD v.d undef = _
          simp only [Array.getD_eq_getD_getElem?]
          rw [puts_mem _ _ hx S.nodup (by rw [S.size]; exact F.range v hv)]; rfl
        unfold wpOp
        simp only [ho]
        rw [if_pos (by unfold Region.wanted; rw [hg])]
        left
        refine wp_store_row v.t (.tmp v.d) (.tmp v.s) hop g cs hptr hval v.t v.z hblk hinfo hz h1 ?_
        have hgW : W.heap.size ≤ g := S.fresh _ hx
        rw [hdst]
        refine ih _ _ (by omega) { f := S.f, V := S.V, aV := S.aV, done := S.done, sto := v.d :: S.sto, walk := S.walk, sizeR := by simp [S.sizeR], sizeV := S.sizeV, same := ?_, special := S.special, laid := ?_, written := ?_, slots := S.slots, nodup := S.nodup, behind := ?_, size := S.size, world := S.world.setRow hgW _, fresh := S.fresh, apart := S.apart, holds := ?_ }
        · intro j hj b
          rw [hset j (hj v hv).2]; exact S.same j hj b
        · intro u hu
          rw [hset _ ((F.inj u hu v hv).2.1)]; exact S.laid u hu
        · intro u hu
          by_cases he2 : u.is = v.is
          · obtain rfl := (F.inj u hu v hv).1 (.inr (.inl he2))
            rw [hseti]; simp
          · rw [hset _ he2, S.written u hu]
            simp only [List.mem_cons]
            constructor
            · exact fun h => .inr h
            · rintro (h | h)
              · exact absurd (congrArg Vari.is ((F.inj u hu v hv).1 (.inr (.inr h)))) he2
              · exact h
        · intro d hd
          rcases List.mem_cons.1 hd with rfl | hd
          · exact hin
          · exact S.behind d hd
        · intro u hu g' hg'
          by_cases he2 : u.d = v.d
          · obtain rfl := (F.inj u hu v hv).1 (.inr (.inr he2))
            rw [if_pos (by simp), hcs]
            have hgg : g' = g := by
              have h3 := puts_mem S.aV S.done hg' S.nodup (by rw [S.size]; exact F.range u hu)
              rw [puts_mem S.aV S.done hx S.nodup (by rw [S.size]; exact F.range u hu)] at h3
              injection h3 with h3; injection h3 with h3; injection h3 with h3; injection h3 with h3; exact h3.symm
            rw [hgg]
            exact Blk.setRow_ hblk cs
          · have hne : g ≠ g' := fun h => by
              subst h
              exact he2 (nodup_snd _ S.apart hg' hx)
            have := Blk.setRow_far (S.holds u hu g' hg') hne cs
            by_cases hm : u.d ∈ S.sto
            · rw [if_pos hm] at this; rw [if_pos (List.mem_cons_of_mem _ hm)]; exact this
            · rw [if_neg hm] at this; rw [if_neg (fun h => by rcases List.mem_cons.1 h with h | h; exact he2 h; exact hm h)]; exact this

def isSp (vs : List Vari) (i : Nat) : Bool := vs.any fun v => i == v.ia || i == v.is
theorem isSp_no {vs : List Vari} {i : Nat} (h : isSp vs i = false) : ∀ v ∈ vs, i ≠ v.ia ∧ i ≠ v.is := fun v hv => by
  have := List.any_eq_false.1 h v hv
  simpa using this
theorem isSp_yes {vs : List Vari} {i : Nat} (h : isSp vs i = true) : ∃ v ∈ vs, i = v.ia ∨ i = v.is := by
  obtain ⟨v, hv, h⟩ := List.any_eq_true.1 h
  exact ⟨v, hv, by simpa using h⟩
def waitsB (md : Region.Mode) (o : Option Oper) (i : Nat) : Bool := match o with | some o => o.after.any fun e => Region.binds md e && e.on == i | none => false
theorem waitsB_spec {o : Option Oper} {i : Nat} (h : waitsB md o i = true) : ∃ o', o = some o' ∧ ∃ e ∈ o'.after, Region.binds md e = true ∧ e.on = i := by
  cases o with
  | none => cases h
  | some o =>
    obtain ⟨e, he, hb⟩ := Array.any_eq_true'.1 (h : o.after.any _ = true)
    simp only [Bool.and_eq_true, beq_iff_eq] at hb
    exact ⟨o, rfl, e, he, hb⟩
def quietB (md : Region.Mode) (ops : Array Oper) (vs : List Vari) (N i : Nat) (o : Oper) : Bool := match o.dst with
  | some d => decide (d < N) && vs.all (fun v => v.d != d && !(o.looksAt ops).contains v.d) && (List.range ops.size).all (fun j => j == i || ((ops[j]?).map (fun o' => o'.dst != some d)).getD true) &&
      vs.all fun v => v.s != d || waitsB md ops[v.is]? i
  | none => false
def fitsB (md : Region.Mode) (ops : Array Oper) (vs : List Vari) (N : Nat) : Bool :=
  Region.noSelect ops &&
  (List.range ops.size).all (fun i => ((ops[i]?).map fun o => o.after.all (fun e => !Region.binds md e || decide (e.on < i)) && (isSp vs i || quietB md ops vs N i o)).getD true) &&
  vs.all (fun v => decide ((ops[v.ia]?).bind isAlloc = some (v.d, v.t)) && decide ((ops[v.is]?).bind isStore = some (v.t, v.d, v.s)) && waitsB md ops[v.is]? v.ia && decide (v.d < N)) &&
  decide (vs.Pairwise fun v u => v.ia ≠ u.ia ∧ v.is ≠ u.is ∧ v.d ≠ u.d) && vs.all (fun v => vs.all fun u => v.ia != u.is && v.s != u.d)
theorem pair_inj {vs : List Vari} (h : vs.Pairwise fun v u => v.ia ≠ u.ia ∧ v.is ≠ u.is ∧ v.d ≠ u.d) : ∀ v ∈ vs, ∀ u ∈ vs, (v.ia = u.ia ∨ v.is = u.is ∨ v.d = u.d) → v = u := by
  induction h with
  | nil => intro v hv; simp at hv
  | cons h1 _ ih =>
    intro v hv u hu hc
    rcases List.mem_cons.1 hv with e | hv' <;> rcases List.mem_cons.1 hu with e' | hu'
    · rw [e, e']
    · have := h1 u hu'; rw [← e] at this; omega
    · have := h1 v hv'; rw [← e'] at this; omega
    · exact ih v hv' u hu' hc
theorem fits_of {vs : List Vari} {N : Nat} (h : fitsB md ops vs N = true) : Fits P md ops vs N := by
  unfold fitsB at h
  simp only [Bool.and_eq_true, decide_eq_true_eq] at h
  obtain ⟨⟨⟨⟨h1, h2⟩, h3⟩, h4⟩, h5⟩ := h
  have hop : ∀ i o, ops[i]? = some o → (o.after.all (fun e => !Region.binds md e || decide (e.on < i)) && (isSp vs i || quietB md ops vs N i o)) = true := fun i o ho => by
    have := List.all_eq_true.1 h2 i (List.mem_range.2 (Array.getElem?_eq_some_iff.1 ho).1)
    simpa [ho] using this
  have hv := fun v hv => List.all_eq_true.1 h3 v hv
  simp only [Bool.and_eq_true, decide_eq_true_eq] at hv
  refine ⟨h1, fun i o ho e he hb => ?_, fun i o ho hs => ?_, fun v hvv => ?_, fun v hvv => ?_, fun v hvv u huu => ?_, fun v hvv => (hv v hvv).2⟩
  · have := (Bool.and_eq_true _ _ ▸ hop i o ho).1
    have := Array.all_eq_true_iff_forall_mem.1 this e he
    simpa [hb] using this
  · have := (Bool.and_eq_true _ _ ▸ hop i o ho).2
    have hns : isSp vs i = false := by
      cases e : isSp vs i
      · rfl
      · obtain ⟨v, hv, h⟩ := isSp_yes e
        have := hs v hv; omega
    rw [hns, Bool.false_or] at this
    unfold quietB at this
    split at this
    · rename_i d hd
      simp only [Bool.and_eq_true, decide_eq_true_eq] at this
      obtain ⟨⟨⟨q1, q2⟩, q3⟩, q4⟩ := this
      refine ⟨d, hd, q1, fun v hv => ?_, fun j o' ho' hj hd' => ?_, fun v hv hs' => ?_⟩
      · have := List.all_eq_true.1 q2 v hv
        simpa using this
      · have := List.all_eq_true.1 q3 j (List.mem_range.2 (Array.getElem?_eq_some_iff.1 ho').1)
        simp [ho', hj, hd'] at this
      · have := List.all_eq_true.1 q4 v hv
        simp only [hs', bne_self_eq_false, Bool.false_or] at this
        exact waitsB_spec this
    · cases this
  · have := (hv v hvv).1.1.1
    obtain ⟨o, ho, h⟩ := Option.bind_eq_some_iff.1 this
    exact ⟨o, ho, h⟩
  · obtain ⟨o, ho, h⟩ := Option.bind_eq_some_iff.1 (hv v hvv).1.1.2
    obtain ⟨o', ho', e⟩ := waitsB_spec (hv v hvv).1.2
    rw [ho] at ho'; injection ho' with ho'; subst ho'
    exact ⟨o, ho, h, e⟩
  · have := List.all_eq_true.1 (List.all_eq_true.1 h5 v hvv) u huu
    simp only [Bool.and_eq_true, bne_iff_ne] at this
    exact ⟨fun h => pair_inj h4 v hvv u huu h, this.1, this.2⟩

def listedV (vs : List Vari) (ops : Array Oper) : Array Bool := ((List.range ops.size).map (isSp vs)).toArray
/-- The indices of the quiet ones: the k behind the first n are not. -/
def quietIx (n k size : Nat) : List Nat := List.range n ++ List.range' (n + k) (size - (n + k))
theorem ops_at (l : List Oper) (n k : Nat) (h : n + k ≤ l.length) : (l.take n ++ l.drop (n + k)).map some = (quietIx n k l.toArray.size).map (fun i => l.toArray[i]?) := by
  unfold quietIx
  rw [List.map_append, List.map_append]
  congr 1
  · apply List.ext_getElem?
    intro i
    simp only [List.getElem?_map, List.getElem?_take, List.getElem?_toArray]
    by_cases hi : i < n
    · simp [hi, show i < l.length by omega]
    · simp [hi]
  · apply List.ext_getElem?
    intro i
    simp only [List.getElem?_map, List.getElem?_drop, List.getElem?_toArray]
    by_cases hi : n + k + i < l.length
    · simp [hi, show i < l.length - (n + k) by omega]
    · simp [show ¬ i < l.length - (n + k) by omega, List.getElem?_eq_none (by omega : l.length ≤ n + k + i)]

/-- The region: its first n operations and those behind the k next ones are quiet; these k make and write variables. -/
theorem region_vars {id : Nat} {Q : Exit → Act → World → Prop} {a : Act} {w : World} (W : World) (hw : Later W w) {l : List Oper} (n k : Nat) (vs : List Vari) (N : Nat) (A : Act) (hm : P.follows .mixedOrders = true)
    (hN : a.tmps.size = N) (hB : fitsB .any l.toArray vs N = true) (hL : lexI .any l.toArray (quietIx n k l.toArray.size) (listedV vs l.toArray) = true) (hk : n + k ≤ l.length)
    (hq : ∀ I : World → Prop, Stable I → Nonempty (Regs I W) → wpQuiet P l.toArray (fun w' => ∃ t : Regs I W, w' = ext W t.p) (fun a' => a' = A) (l.take n ++ l.drop (n + k)) a)
    (hal : ∀ v ∈ vs, ∀ o, l.toArray[v.ia]? = some o → ∀ (a : Act) (w : World), (execOp a.eval o).run P w = .ok (.value (.pointer (some ⟨w.heap.size, 0, none⟩))) (w.alloc (.cells v.z v.t)))
    (hva : ∀ v ∈ vs, ∃ cs, A.tmps.getD v.s undef = .agg cs ∧ v.z.size = cs.size ∧ cs.all (·.oneCell') = true ∧ (P.info? v.t).map (·.size) = some cs.size)
    (hfin : ∀ (done : List (Nat × Nat)) (w : World), Kept W w → (∀ v ∈ vs, v.d ∈ done.map (·.1)) → (∀ x ∈ done, ∃ v ∈ vs, v.d = x.1) → (done.map (·.1)).Nodup → (∀ x ∈ done, W.heap.size ≤ x.2) → (done.map (·.2)).Nodup →
      (∀ v ∈ vs, ∀ g, (v.d, g) ∈ done → Blk w g v.t (A.tmps.getD v.s undef).cells) → Q .normal (puts done A) w) :
    (Code.region id l.toArray true).wp P Q a w := by
  have F : Fits P .any l.toArray vs N := fits_of hB
  refine wp_region_any hm ?_
  have hcount : (Array.replicate l.toArray.size false).toList.count false = l.toArray.size := by simp
  have hsz : ∀ v ∈ vs, v.ia < l.toArray.size ∧ v.is < l.toArray.size := fun v hv => by
    obtain ⟨o, ho, _⟩ := F.alloc v hv
    obtain ⟨o', ho', _⟩ := F.store v hv
    exact ⟨(Array.getElem?_eq_some_iff.1 ho).1, (Array.getElem?_eq_some_iff.1 ho').1⟩
  have hV : ∀ j, j < l.toArray.size → (listedV vs l.toArray)[j]? = some (isSp vs j) := fun j hj => by
    unfold listedV
    rw [List.getElem?_toArray, List.getElem?_map, List.getElem?_range hj]; rfl
  have hVn : (listedV vs l.toArray).size = l.toArray.size := by simp [listedV]
  let S0 : State P .any l.toArray vs W A N (Array.replicate l.toArray.size false) { w with drawn := w.drawn + 1 } := {
    f := (quietIx n k l.toArray.size).length, V := listedV vs l.toArray, aV := a, done := [], sto := [],
    walk := fun I hI hne => anyQ_lex F.sel _ _ _ _ (ops_at l n k hk) hL (hq I hI hne),
    sizeR := by simp, sizeV := hVn,
    same := fun j hj b => by
      have hns : isSp vs j = false := by
        cases e : isSp vs j
        · rfl
        · obtain ⟨v, hv, h⟩ := isSp_yes e
          have := hj v hv; omega
      by_cases hlt : j < l.toArray.size
      · have h1 := hV j hlt
        rw [hns] at h1
        simp only [Array.getD_eq_getD_getElem?]
        rw [h1]
        have : j < l.length := by simpa using hlt
        simp [this]
      · have h1 : (listedV vs l.toArray)[j]? = none := Array.getElem?_eq_none (by omega)
        simp only [Array.getD_eq_getD_getElem?]
        rw [h1]
        have : ¬ j < l.length := by simpa using hlt
        simp [this],
    special := fun v hv => by
      have e1 : isSp vs v.ia = true := List.any_eq_true.2 ⟨v, hv, by simp⟩
      have e2 : isSp vs v.is = true := List.any_eq_true.2 ⟨v, hv, by simp⟩
      simp only [Array.getD_eq_getD_getElem?]
      rw [hV _ (hsz v hv).1, hV _ (hsz v hv).2, e1, e2]
      exact ⟨rfl, rfl⟩,
    laid := fun v hv => by
      have := (hsz v hv).1
      simp at this
      simp [this],
    written := fun v hv => by
      have := (hsz v hv).2
      simp at this
      simp [this],
    slots := fun x hx => by simp at hx, nodup := by simp, behind := fun d hd => by simp at hd, size := hN,
    world := by
      have h1 := hw.kept
      exact ⟨h1.os, h1.tape, h1.output, h1.size, h1.block⟩,
    fresh := fun x hx => by simp at hx, apart := by simp, holds := fun v _ g hg => by simp at hg }
  exact sim F hal hva hfin _ _ _ hcount S0

theorem alloc_same {ev : Operand → Value} {o : Oper} {t : TypeId} (h : o.op = .alloc t) : execOp ev o = execOp ev ⟨none, .alloc t, 0, "", #[], none⟩ := by
  unfold execOp; rw [h]
/-- One variable. -/
theorem region_var1 {id : Nat} {Q : Exit → Act → World → Prop} {a : Act} {w : World} (W : World) (hw : Later W w) {l : List Oper} (n d s : Nat) (t : TypeId) (z : Array Value) (N : Nat) (hm : P.follows .mixedOrders = true)
    (hN : a.tmps.size = N) (hB : fitsB .any l.toArray [⟨n, n + 1, d, s, t, z⟩] N = true) (hL : lexI .any l.toArray (quietIx n 2 l.toArray.size) (listedV [⟨n, n + 1, d, s, t, z⟩] l.toArray) = true) (hk : n + 2 ≤ l.length)
    (hal : ∀ (ev : Operand → Value) (w : World), (execOp ev ⟨none, .alloc t, 0, "", #[], none⟩).run P w = .ok (.value (.pointer (some ⟨w.heap.size, 0, none⟩))) (w.alloc (.cells z t)))
    (H : ∃ A : Act, (∀ I : World → Prop, Stable I → Nonempty (Regs I W) → wpQuiet P l.toArray (fun w' => ∃ t : Regs I W, w' = ext W t.p) (fun a' => a' = A) (l.take n ++ l.drop (n + 2)) a) ∧
      ∃ cs : Array Value, (A.tmps.getD s undef = .agg cs ∧ z.size = cs.size ∧ cs.all (·.oneCell') = true ∧ (P.info? t).map (·.size) = some cs.size) ∧
      ∀ g w', Kept W w' → W.heap.size ≤ g → Blk w' g t cs → Q .normal (A.put (some d) (.pointer (some ⟨g, 0, none⟩))) w') :
    (Code.region id l.toArray true).wp P Q a w := by
  obtain ⟨A, hq, cs, hva, h⟩ := H
  refine region_vars W hw n 2 _ N A hm hN hB hL hk hq ?_ ?_ ?_
  · intro v hv o ho a w
    obtain rfl := List.mem_singleton.1 hv
    obtain ⟨o', ho', e⟩ := (fits_of (P := P) hB).alloc _ hv
    rw [ho] at ho'; injection ho' with ho'; subst ho'
    rw [alloc_same (isAlloc_spec e).1]; exact hal _ _
  · intro v hv
    obtain rfl := List.mem_singleton.1 hv
    exact ⟨cs, hva⟩
  · intro done w hkw hall hslots hnd hfr hap hbl
    have h1 := hall _ (List.mem_singleton.2 rfl)
    obtain ⟨⟨d', g⟩, hx, hd'⟩ := List.mem_map.1 h1
    simp only at hd'
    subst hd'
    have hdone : done = [(d', g)] := by
      match done, hx, hslots, hnd with
      | [y], hx, _, _ => simp at hx; rw [hx]
      | y :: y' :: r, _, hs, hn =>
        obtain ⟨v, hv, e⟩ := hs y (by simp)
        obtain ⟨v', hv', e'⟩ := hs y' (by simp)
        obtain rfl := List.mem_singleton.1 hv
        obtain rfl := List.mem_singleton.1 hv'
        simp only [List.map_cons, List.nodup_cons] at hn
        exact absurd (by rw [← e, ← e']; simp) hn.1
    have hb := hbl _ (List.mem_singleton.2 rfl) g hx
    simp only [hva.1] at hb
    rw [hdone]
    exact h g w hkw (hfr _ hx) hb
/-- Two variables. -/
theorem region_var2 {id : Nat} {Q : Exit → Act → World → Prop} {a : Act} {w : World} (W : World) (hw : Later W w) {l : List Oper} (n d s d2 s2 : Nat) (t : TypeId) (z : Array Value) (t2 : TypeId) (z2 : Array Value) (N : Nat) (hm : P.follows .mixedOrders = true)
    (hN : a.tmps.size = N) (hB : fitsB .any l.toArray [⟨n, n + 2, d, s, t, z⟩, ⟨n + 1, n + 3, d2, s2, t2, z2⟩] N = true) (hL : lexI .any l.toArray (quietIx n 4 l.toArray.size) (listedV [⟨n, n + 2, d, s, t, z⟩, ⟨n + 1, n + 3, d2, s2, t2, z2⟩] l.toArray) = true) (hk : n + 4 ≤ l.length) (hdd : d ≠ d2)
    (hal : ∀ (ev : Operand → Value) (w : World), (execOp ev ⟨none, .alloc t, 0, "", #[], none⟩).run P w = .ok (.value (.pointer (some ⟨w.heap.size, 0, none⟩))) (w.alloc (.cells z t)))
    (hal2 : ∀ (ev : Operand → Value) (w : World), (execOp ev ⟨none, .alloc t2, 0, "", #[], none⟩).run P w = .ok (.value (.pointer (some ⟨w.heap.size, 0, none⟩))) (w.alloc (.cells z2 t2)))
    (H : ∃ A : Act, (∀ I : World → Prop, Stable I → Nonempty (Regs I W) → wpQuiet P l.toArray (fun w' => ∃ t : Regs I W, w' = ext W t.p) (fun a' => a' = A) (l.take n ++ l.drop (n + 4)) a) ∧
      ∃ cs : Array Value, (A.tmps.getD s undef = .agg cs ∧ z.size = cs.size ∧ cs.all (·.oneCell') = true ∧ (P.info? t).map (·.size) = some cs.size) ∧
      ∃ cs2 : Array Value, (A.tmps.getD s2 undef = .agg cs2 ∧ z2.size = cs2.size ∧ cs2.all (·.oneCell') = true ∧ (P.info? t2).map (·.size) = some cs2.size) ∧
      ∀ g g2 w', Kept W w' → W.heap.size ≤ g → W.heap.size ≤ g2 → g ≠ g2 → Blk w' g t cs → Blk w' g2 t2 cs2 → Q .normal ((A.put (some d) (.pointer (some ⟨g, 0, none⟩))).put (some d2) (.pointer (some ⟨g2, 0, none⟩))) w') :
    (Code.region id l.toArray true).wp P Q a w := by
  obtain ⟨A, hq, cs, hva, cs2, hva2, h⟩ := H
  refine region_vars W hw n 4 _ N A hm hN hB hL hk hq ?_ ?_ ?_
  · intro v hv o ho a w
    obtain ⟨o', ho', e⟩ := (fits_of (P := P) hB).alloc _ hv
    rw [ho] at ho'; injection ho' with ho'; subst ho'
    rw [alloc_same (isAlloc_spec e).1]
    simp only [List.mem_cons, List.not_mem_nil, or_false] at hv
    rcases hv with rfl | rfl
    · exact hal _ _
    · exact hal2 _ _
  · intro v hv
    simp only [List.mem_cons, List.not_mem_nil, or_false] at hv
    rcases hv with rfl | rfl
    · exact ⟨cs, hva⟩
    · exact ⟨cs2, hva2⟩
  · intro done w hkw hall hslots hnd hfr hap hbl
    have m1 : (⟨n, n + 2, d, s, t, z⟩ : Vari) ∈ [(⟨n, n + 2, d, s, t, z⟩ : Vari), ⟨n + 1, n + 3, d2, s2, t2, z2⟩] := by simp
    have m2 : (⟨n + 1, n + 3, d2, s2, t2, z2⟩ : Vari) ∈ [(⟨n, n + 2, d, s, t, z⟩ : Vari), ⟨n + 1, n + 3, d2, s2, t2, z2⟩] := by simp
    obtain ⟨⟨e1, g⟩, hx, hd'⟩ := List.mem_map.1 (hall _ m1)
    obtain ⟨⟨e2, g2⟩, hx2, hd2'⟩ := List.mem_map.1 (hall _ m2)
    simp only at hd' hd2'
    subst hd' hd2'
    have hb := hbl _ m1 g hx
    have hb2 := hbl _ m2 g2 hx2
    simp only [hva.1] at hb
    simp only [hva2.1] at hb2
    have hgg : g ≠ g2 := fun e => hdd (nodup_snd _ hap hx (by rw [e]; exact hx2))
    have hthree : done = [(e1, g), (e2, g2)] ∨ done = [(e2, g2), (e1, g)] := by
      have hin : ∀ y ∈ done, y.1 = e1 ∨ y.1 = e2 := fun y hy => by
        obtain ⟨v, hv, e⟩ := hslots y hy
        simp only [List.mem_cons, List.not_mem_nil, or_false] at hv
        rcases hv with rfl | rfl
        · exact .inl e.symm
        · exact .inr e.symm
      clear hbl hfr hslots hall
      match done, hx, hx2, hin, hnd with
      | [y], hx, hx2, _, _ =>
        simp only [List.mem_singleton] at hx hx2
        rw [← hx] at hx2; injection hx2 with h1 _; exact absurd h1.symm hdd
      | [y, y'], hx, hx2, _, _ =>
        simp only [List.mem_cons, List.not_mem_nil, or_false] at hx hx2
        rcases hx with h1 | h1 <;> rcases hx2 with h2 | h2
        · rw [← h1] at h2; injection h2 with h3 _; exact absurd h3.symm hdd
        · exact .inl (by rw [h1, h2])
        · exact .inr (by rw [h1, h2])
        · rw [← h1] at h2; injection h2 with h3 _; exact absurd h3.symm hdd
      | y :: y' :: y'' :: r, _, _, hin, hn =>
        simp only [List.map_cons, List.nodup_cons, List.mem_cons, not_or] at hn
        have a1 := hin y (by simp)
        have a2 := hin y' (by simp)
        have a3 := hin y'' (by simp)
        omega
    rcases hthree with e | e
    · rw [e]
      have := h g g2 w hkw (hfr _ hx) (hfr _ hx2) hgg hb hb2
      rw [Act.put_comm _ _ _ fun d hd e => hdd (by injection hd with hd; injection e with e; rw [hd, e])] at this
      exact this
    · rw [e]
      exact h g g2 w hkw (hfr _ hx) (hfr _ hx2) hgg hb hb2
end
end Pg
