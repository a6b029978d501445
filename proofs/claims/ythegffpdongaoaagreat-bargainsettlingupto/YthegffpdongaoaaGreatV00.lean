/-
  Proved: BargainSettlingUptoSaid, for every input whose bulk is at most 1048576 values; no further condition. (This text is one part of the proof.)
-/
import Derived.WalkKit
import Derived.RangeFuncLeaves
import Derived.RangeFuncNested
import Derived.RangeFuncCalls
import Derived.Lib.LaidTab
import Derived.Great.BuildSlice
set_option linter.unusedVariables false
set_option linter.unusedSimpArgs false
set_option linter.unusedSectionVars false
namespace Go.VM
inductive D where
 | lit (v : Value)
 | agg (cs : List D)
 | list (es : Nat) (l : List D)
 | ptr (cs : List D)
 | fn (f : Fn) (first caps : List D)
 | iface (t : TypeId) (d : D)
 | tuple (ds : List D)
 | empt (c0 : Bool)
def D.one : D → Bool
 | .lit v => v.oneCell'
 | .agg _ | .tuple _ => false
 | _ => true
def D.cells : D → List D
 | .agg cs => cs
 | d => [d]
abbrev Mem := Nat → Nat → Value → Prop
mutual
def Rel (M : Mem) : D → Value → Prop
 | .lit v, x => x = v
 | .agg cs, x => ∃ vs : List Value, x = .agg vs.toArray ∧ RelC M cs vs
 | .list es l, x => ∃ (base : Option Addr) (cap : Nat), x = .slice base l.length cap ∧ (l.length ≤ cap ∧ l.length ≤ 4294967296) ∧ ((l = [] ∧ (base = none → cap = 0)) ∨ ∃ b o, base = some ⟨b, o, none⟩ ∧ RelRow M (M b) es o l)
 | .ptr cs, x => ∃ b o, x = .pointer (some ⟨b, o, none⟩) ∧ RelAt M (M b) o cs
 | .fn f fi ca, x => ∃ fs cs : List Value, x = .func f fs.toArray cs.toArray ∧ RelL M fi fs ∧ RelL M ca cs
 | .iface t d, x => ∃ v, x = .iface t v ∧ Rel M d v
 | .tuple ds, x => ∃ vs : List Value, x = .tuple vs.toArray ∧ RelL M ds vs
 | .empt c0, x => ∃ a cap, x = .slice (some a) 0 cap ∧ (c0 = true → cap = 0)
def RelL (M : Mem) : List D → List Value → Prop
 | [], vs => vs = []
 | d :: ds, vs => ∃ v r, vs = v :: r ∧ Rel M d v ∧ RelL M ds r
def RelC (M : Mem) : List D → List Value → Prop
 | [], vs => vs = []
 | d :: ds, vs => ∃ v r, vs = v :: r ∧ d.one = true ∧ Rel M d v ∧ RelC M ds r
def RelAt (M : Mem) (rd : Nat → Value → Prop) (o : Nat) : List D → Prop
 | [] => True
 | d :: ds => d.one = true ∧ (∃ v, rd o v ∧ Rel M d v) ∧ RelAt M rd (o + 1) ds
def RelE (M : Mem) (rd : Nat → Value → Prop) (es : Nat) (o : Nat) : D → Prop
 | .agg cs => cs.length = es ∧ RelAt M rd o cs
 | .lit v => 1 = es ∧ v.oneCell' = true ∧ rd o v
 | .list es' l => 1 = es ∧ (∃ v, rd o v ∧ ∃ (base : Option Addr) (cap : Nat), v = .slice base l.length cap ∧ (l.length ≤ cap ∧ l.length ≤ 4294967296) ∧ ((l = [] ∧ (base = none → cap = 0)) ∨ ∃ b o, base = some ⟨b, o, none⟩ ∧ RelRow M (M b) es' o l))
 | .ptr cs => 1 = es ∧ (∃ v, rd o v ∧ ∃ b o, v = .pointer (some ⟨b, o, none⟩) ∧ RelAt M (M b) o cs)
 | .fn f fi ca => 1 = es ∧ (∃ v, rd o v ∧ ∃ fs cs : List Value, v = .func f fs.toArray cs.toArray ∧ RelL M fi fs ∧ RelL M ca cs)
 | .iface t d => 1 = es ∧ (∃ v, rd o v ∧ ∃ v', v = .iface t v' ∧ Rel M d v')
 | .tuple _ => False
 | .empt c0 => 1 = es ∧ (∃ v, rd o v ∧ ∃ a cap, v = .slice (some a) 0 cap ∧ (c0 = true → cap = 0))
def RelRow (M : Mem) (rd : Nat → Value → Prop) (es : Nat) (o : Nat) : List D → Prop
 | [] => True
 | d :: ds => RelE M rd es o d ∧ RelRow M rd es (o + es) ds
end
theorem relE_iff (M : Mem) (rd : Nat → Value → Prop) (es o : Nat) (d : D) : RelE M rd es o d ↔ d.cells.length = es ∧ RelAt M rd o d.cells := by
 cases d with
 | agg cs => simp only [RelE, D.cells]
 | tuple ds => simp [RelE, D.cells, RelAt, D.one]
 | lit v =>
  simp only [RelE, D.cells, RelAt, D.one, Rel, List.length_cons, List.length_nil, Nat.zero_add, and_true]
  constructor
  ·rintro ⟨h0, h1, h2⟩; exact ⟨h0, h1, v, h2, rfl⟩
  ·rintro ⟨h0, h1, _, h2, rfl⟩; exact ⟨h0, h1, h2⟩
 | _ => simp only [RelE, D.cells, RelAt, D.one, Rel, List.length_cons, List.length_nil, Nat.zero_add, and_true, true_and]
def Mem.le (M M' : Mem) : Prop := ∀ b o v, M b o v → M' b o v
theorem rel_mono' {M M' : Mem} (h : M.le M') : ∀ d, (∀ x, Rel M d x → Rel M' d x) ∧ (∀ (rd rd' : Nat → Value → Prop) o, (∀ o v, rd o v → rd' o v) → RelAt M rd o d.cells → RelAt M' rd' o d.cells) := by
 intro d
 refine D.rec (motive_1 := fun d => (∀ x, Rel M d x → Rel M' d x) ∧ (∀ (rd rd' : Nat → Value → Prop) o, (∀ o v, rd o v → rd' o v) → RelAt M rd o d.cells → RelAt M' rd' o d.cells))
  (motive_2 := fun l => (∀ vs, RelL M l vs → RelL M' l vs) ∧ (∀ vs, RelC M l vs → RelC M' l vs) ∧
   (∀ (rd rd' : Nat → Value → Prop) o, (∀ o v, rd o v → rd' o v) → RelAt M rd o l → RelAt M' rd' o l) ∧
   (∀ (rd rd' : Nat → Value → Prop) es o, (∀ o v, rd o v → rd' o v) → RelRow M rd es o l → RelRow M' rd' es o l))
  ?_ ?_ ?_ ?_ ?_ ?_ ?_ ?_ ?_ ?_ d
 ·intro v; refine ⟨fun x hx => by simpa only [Rel] using hx, fun rd rd' o hr => ?_⟩
  simp only [D.cells, RelAt, Rel]; rintro ⟨h0, ⟨v, h1, h2⟩, h3⟩; exact ⟨h0, ⟨v, hr _ _ h1, h2⟩, h3⟩
 ·intro cs ih
  refine ⟨fun x hx => ?_, fun rd rd' o hr => ih.2.2.1 _ _ _ hr⟩
  simp only [Rel] at hx ⊢; obtain ⟨vs, e, r⟩ := hx; exact ⟨vs, e, ih.2.1 _ r⟩
 ·intro es l ih
  have key : ∀ x, Rel M (.list es l) x → Rel M' (.list es l) x := fun x hx => by
   simp only [Rel] at hx ⊢; obtain ⟨base, cap, e, hc, r⟩ := hx
   refine ⟨base, cap, e, hc, r.imp id ?_⟩
   rintro ⟨b, o, e, r⟩
   exact ⟨b, o, e, ih.2.2.2 _ _ _ _ (fun o v => h b o v) r⟩
  refine ⟨key, fun rd rd' o hr => ?_⟩
  simp only [D.cells, RelAt]; rintro ⟨h0, ⟨v, h1, h2⟩, h3⟩; exact ⟨h0, ⟨v, hr _ _ h1, key _ h2⟩, h3⟩
 ·intro cs ih
  have key : ∀ x, Rel M (.ptr cs) x → Rel M' (.ptr cs) x := fun x hx => by
   simp only [Rel] at hx ⊢; obtain ⟨b, o, e, r⟩ := hx
   exact ⟨b, o, e, ih.2.2.1 _ _ _ (fun o v => h b o v) r⟩
  refine ⟨key, fun rd rd' o hr => ?_⟩
  simp only [D.cells, RelAt]; rintro ⟨h0, ⟨v, h1, h2⟩, h3⟩; exact ⟨h0, ⟨v, hr _ _ h1, key _ h2⟩, h3⟩
 ·intro f fi ca ih1 ih2
  have key : ∀ x, Rel M (.fn f fi ca) x → Rel M' (.fn f fi ca) x := fun x hx => by
   simp only [Rel] at hx ⊢; obtain ⟨fs, cs, e, r1, r2⟩ := hx
   exact ⟨fs, cs, e, ih1.1 _ r1, ih2.1 _ r2⟩
  refine ⟨key, fun rd rd' o hr => ?_⟩
  simp only [D.cells, RelAt]; rintro ⟨h0, ⟨v, h1, h2⟩, h3⟩; exact ⟨h0, ⟨v, hr _ _ h1, key _ h2⟩, h3⟩
 ·intro t d ih
  have key : ∀ x, Rel M (.iface t d) x → Rel M' (.iface t d) x := fun x hx => by
   simp only [Rel] at hx ⊢; obtain ⟨v, e, r⟩ := hx; exact ⟨v, e, ih.1 _ r⟩
  refine ⟨key, fun rd rd' o hr => ?_⟩
  simp only [D.cells, RelAt]; rintro ⟨h0, ⟨v, h1, h2⟩, h3⟩; exact ⟨h0, ⟨v, hr _ _ h1, key _ h2⟩, h3⟩
 ·intro ds ih
  have key : ∀ x, Rel M (.tuple ds) x → Rel M' (.tuple ds) x := fun x hx => by
   simp only [Rel] at hx ⊢; obtain ⟨vs, e, r⟩ := hx; exact ⟨vs, e, ih.1 _ r⟩
  refine ⟨key, fun rd rd' o hr => ?_⟩
  simp only [D.cells, RelAt]; rintro ⟨h0, ⟨v, h1, h2⟩, h3⟩; exact ⟨h0, ⟨v, hr _ _ h1, key _ h2⟩, h3⟩
 ·intro c0; refine ⟨fun x hx => by simpa only [Rel] using hx, fun rd rd' o hr => ?_⟩
  simp only [D.cells, RelAt, Rel]; rintro ⟨h0, ⟨v, h1, h2⟩, h3⟩; exact ⟨h0, ⟨v, hr _ _ h1, h2⟩, h3⟩
 ·refine ⟨fun vs hv => by simpa only [RelL] using hv, fun vs hv => by simpa only [RelC] using hv, fun _ _ _ _ _ => by simp only [RelAt], fun _ _ _ _ _ _ => by simp only [RelRow]⟩
 ·intro d ds ihd ih
  refine ⟨fun vs hv => ?_, fun vs hv => ?_, fun rd rd' o hr hv => ?_, fun rd rd' es o hr hv => ?_⟩
  ·simp only [RelL] at hv ⊢; obtain ⟨v, r, e, h1, h2⟩ := hv; exact ⟨v, r, e, ihd.1 _ h1, ih.1 _ h2⟩
  ·simp only [RelC] at hv ⊢; obtain ⟨v, r, e, h0, h1, h2⟩ := hv; exact ⟨v, r, e, h0, ihd.1 _ h1, ih.2.1 _ h2⟩
  ·simp only [RelAt] at hv ⊢; obtain ⟨h0, ⟨v, h1, h2⟩, h3⟩ := hv
   exact ⟨h0, ⟨v, hr _ _ h1, ihd.1 _ h2⟩, ih.2.2.1 _ _ _ hr h3⟩
  ·simp only [RelRow, relE_iff] at hv ⊢; obtain ⟨⟨h0, h1⟩, h3⟩ := hv
   exact ⟨⟨h0, ihd.2 _ _ _ hr h1⟩, ih.2.2.2 _ _ _ _ hr h3⟩
theorem rel_mono {M M' : Mem} (h : M.le M') {d : D} {x : Value} (hx : Rel M d x) : Rel M' d x := (rel_mono' h d).1 x hx
theorem relL_mono {M M' : Mem} (h : M.le M') : ∀ {l : List D} {vs : List Value}, RelL M l vs → RelL M' l vs
 | [], _, hv => by simpa only [RelL] using hv
 | d :: ds, _, hv => by
  simp only [RelL] at hv ⊢; obtain ⟨v, r, e, h1, h2⟩ := hv; exact ⟨v, r, e, rel_mono h h1, relL_mono h h2⟩
theorem relAt_mono {M M' : Mem} (h : M.le M') {rd rd' : Nat → Value → Prop} (hr : ∀ o v, rd o v → rd' o v) : ∀ {l : List D} {o : Nat}, RelAt M rd o l → RelAt M' rd' o l
 | [], _, _ => by simp only [RelAt]
 | d :: ds, _, hv => by
  simp only [RelAt] at hv ⊢; obtain ⟨h0, ⟨v, h1, h2⟩, h3⟩ := hv
  exact ⟨h0, ⟨v, hr _ _ h1, rel_mono h h2⟩, relAt_mono h hr h3⟩
theorem relRow_mono {M M' : Mem} (h : M.le M') {rd rd' : Nat → Value → Prop} (hr : ∀ o v, rd o v → rd' o v) {es : Nat} : ∀ {l : List D} {o : Nat}, RelRow M rd es o l → RelRow M' rd' es o l
 | [], _, _ => by simp only [RelRow]
 | d :: ds, _, hv => by
  simp only [RelRow, relE_iff] at hv ⊢; obtain ⟨⟨h0, h1⟩, h3⟩ := hv
  exact ⟨⟨h0, relAt_mono h hr h1⟩, relRow_mono h hr h3⟩
theorem relL_iff {M : Mem} : ∀ {l : List D} {vs : List Value}, RelL M l vs ↔ l.length = vs.length ∧ ∀ (i : Nat) (d : D) (v : Value), l[i]? = some d → vs[i]? = some v → Rel M d v
 | [], vs => by
  simp only [RelL, List.length_nil]
  exact ⟨fun h => by subst h; simp, fun h => List.eq_nil_of_length_eq_zero h.1.symm⟩
 | d :: ds, vs => by
  simp only [RelL]
  constructor
  ·rintro ⟨v, r, rfl, h1, h2⟩
   obtain ⟨h3, h4⟩ := relL_iff.1 h2
   refine ⟨by simp [h3], fun i => ?_⟩
   cases i with
   | zero => rintro d' v' hd hv; cases hd; cases hv; exact h1
   | succ i => intro d' v' hd hv; exact h4 i d' v' (by simpa using hd) (by simpa using hv)
  ·rintro ⟨h1, h2⟩
   cases vs with
   | nil => simp at h1
   | cons v r => exact ⟨v, r, rfl, h2 0 d v rfl rfl, relL_iff.2 ⟨by simpa using h1, fun i d' v' hd hv => h2 (i + 1) d' v' (by simpa using hd) (by simpa using hv)⟩⟩
theorem one_of_rel {M : Mem} {d : D} {v : Value} (h : Rel M d v) (h1 : d.one = true) : v.oneCell' = true := by
 cases d with
 | lit u => simp only [Rel] at h; subst h; exact h1
 | agg => simp [D.one] at h1
 | tuple => simp [D.one] at h1
 | list es l => simp only [Rel] at h; obtain ⟨b, c, rfl, _⟩ := h; rfl
 | ptr cs => simp only [Rel] at h; obtain ⟨b, c, rfl, _⟩ := h; rfl
 | fn f a b => simp only [Rel] at h; obtain ⟨b, c, rfl, _⟩ := h; rfl
 | iface t d => simp only [Rel] at h; obtain ⟨b, rfl, _⟩ := h; rfl
 | empt c => simp only [Rel] at h; obtain ⟨b, c, rfl, _⟩ := h; rfl
theorem relC_iff {M : Mem} : ∀ {l : List D} {vs : List Value}, RelC M l vs ↔ l.length = vs.length ∧ ∀ (i : Nat) (d : D) (v : Value), l[i]? = some d → vs[i]? = some v → d.one = true ∧ Rel M d v
 | [], vs => by
  simp only [RelC, List.length_nil]
  exact ⟨fun h => by subst h; simp, fun h => List.eq_nil_of_length_eq_zero h.1.symm⟩
 | d :: ds, vs => by
  simp only [RelC]
  constructor
  ·rintro ⟨v, r, rfl, h0, h1, h2⟩
   obtain ⟨h3, h4⟩ := relC_iff.1 h2
   refine ⟨by simp [h3], fun i => ?_⟩
   cases i with
   | zero => rintro d' v' hd hv; cases hd; cases hv; exact ⟨h0, h1⟩
   | succ i => intro d' v' hd hv; exact h4 i d' v' (by simpa using hd) (by simpa using hv)
  ·rintro ⟨h1, h2⟩
   cases vs with
   | nil => simp at h1
   | cons v r => exact ⟨v, r, rfl, (h2 0 d v rfl rfl).1, (h2 0 d v rfl rfl).2, relC_iff.2 ⟨by simpa using h1, fun i d' v' hd hv => h2 (i + 1) d' v' (by simpa using hd) (by simpa using hv)⟩⟩
theorem relAt_iff {M : Mem} {rd : Nat → Value → Prop} : ∀ {l : List D} {o : Nat}, RelAt M rd o l ↔ ∀ (i : Nat) (d : D), l[i]? = some d → d.one = true ∧ ∃ v, rd (o + i) v ∧ Rel M d v
 | [], o => by simp [RelAt]
 | d :: ds, o => by
  simp only [RelAt]
  constructor
  ·rintro ⟨h0, h1, h2⟩ i
   cases i with
   | zero => intro d' hd; cases hd; exact ⟨h0, h1⟩
   | succ i => intro d' hd; have := relAt_iff.1 h2 i d' (by simpa using hd); rwa [show o + 1 + i = o + (i + 1) by omega] at this
  ·intro h
   refine ⟨(h 0 d rfl).1, (h 0 d rfl).2, relAt_iff.2 fun i d' hd => ?_⟩
   have := h (i + 1) d' (by simpa using hd)
   rwa [show o + (i + 1) = o + 1 + i by omega] at this
theorem relRow_iff {M : Mem} {rd : Nat → Value → Prop} {es : Nat} : ∀ {l : List D} {o : Nat}, RelRow M rd es o l ↔ ∀ (i : Nat) (d : D), l[i]? = some d → d.cells.length = es ∧ RelAt M rd (o + i * es) d.cells
 | [], o => by simp [RelRow]
 | d :: ds, o => by
  simp only [RelRow, relE_iff]
  constructor
  ·rintro ⟨h0, h2⟩ i
   cases i with
   | zero => intro d' hd; cases hd; simpa using h0
   | succ i => intro d' hd; have := relRow_iff.1 h2 i d' (by simpa using hd); rwa [show o + es + i * es = o + (i + 1) * es by rw [Nat.add_mul]; omega] at this
  ·intro h
   refine ⟨by simpa using h 0 d rfl, relRow_iff.2 fun i d' hd => ?_⟩
   have := h (i + 1) d' (by simpa using hd)
   rwa [show o + (i + 1) * es = o + es + i * es by rw [Nat.add_mul]; omega] at this
theorem rel_cells {M : Mem} {d : D} {v : Value} (h : Rel M d v) (ht : ∀ ds, d ≠ .tuple ds) (hl : ∀ u, d = .lit u → u.oneCell' = true) : RelC M d.cells v.cells.toList := by
 cases d with
 | agg cs => simp only [Rel] at h; obtain ⟨vs, rfl, h⟩ := h; simpa [D.cells, Value.cells] using h
 | tuple ds => exact absurd rfl (ht ds)
 | lit u =>
  have h1 := hl u rfl
  simp only [Rel] at h; subst h
  cases v <;> simp [Value.oneCell'] at h1 <;> simp [D.cells, Value.cells, RelC, D.one, Rel, Value.oneCell']
 | list es l => have h' := h; simp only [Rel] at h; obtain ⟨b, c, rfl, _⟩ := h; simpa [D.cells, Value.cells, RelC, D.one] using h'
 | ptr cs => have h' := h; simp only [Rel] at h; obtain ⟨b, c, rfl, _⟩ := h; simpa [D.cells, Value.cells, RelC, D.one] using h'
 | fn f a b => have h' := h; simp only [Rel] at h; obtain ⟨b, c, rfl, _⟩ := h; simpa [D.cells, Value.cells, RelC, D.one] using h'
 | iface t d => have h' := h; simp only [Rel] at h; obtain ⟨b, rfl, _⟩ := h; simpa [D.cells, Value.cells, RelC, D.one] using h'
 | empt c => have h' := h; simp only [Rel] at h; obtain ⟨b, c, rfl, _⟩ := h; simpa [D.cells, Value.cells, RelC, D.one] using h'
end Go.VM
namespace Go.VM
inductive V where
 | d (x : D)
 | any
 | own (k off : Nat)
 | osl (k n : Nat)
 | optr (k n i off : Nat)
 | omap (k : Nat)
 | agg (cs : List V)
 | fn (f : Fn) (first caps : List V)
 | tuple (vs : List V)
 | otail (k n i : Nat)
inductive Obj where
 | dead
 | cells (cs : List V)
 | arr (e : TypeId) (es : Nat) (l : List D)
 | map (l : List (D × D))
 | raw (p : Nat → Go.Loop → Prop) (cs : List V)
abbrev Env := Nat → V
abbrev Sig := List Obj
def homeBlock : Value → Option Nat
 | .pointer (some a) => some a.block
 | .slice (some a) _ _ => some a.block
 | .map (some r) => some r
 | _ => none
def Owned (η : Nat → Value) (σ : Sig) (b : Nat) : Prop := ∃ k o, σ[k]? = some o ∧ o ≠ .dead ∧ homeBlock (η k) = some b
def mem (A : Nat → Prop) (η : Nat → Value) (σ : Sig) (w : World) : Mem := fun b o v => ¬ A b ∧ ¬ Owned η σ b ∧ w.cell? ⟨b, o, none⟩ = some v
mutual
def RelV (M : Mem) (σ : Sig) (η : Nat → Value) : V → Value → Prop
 | .d x, v => Rel M x v
 | .any, _ => True
 | .own k off, v => k < σ.length ∧ ∃ b, η k = .pointer (some ⟨b, 0, none⟩) ∧ v = .pointer (some ⟨b, off, none⟩)
 | .osl k n, v => k < σ.length ∧ (∃ b c, v = .slice b n c) ∧ ∀ e es l, σ[k]? = some (.arr e es l) → n ≤ l.length ∧ (l.length = n → v = η k)
 | .optr k n i off, v => k < σ.length ∧ (∃ b o, v = .pointer (some ⟨b, o, none⟩)) ∧ ∀ e es l, σ[k]? = some (.arr e es l) → n ≤ l.length ∧ (l.length = n → ∃ b, homeBlock (η k) = some b ∧ v = .pointer (some ⟨b, i * es + off, none⟩))
 | .omap k, v => k < σ.length ∧ ∃ r, η k = .map (some r) ∧ v = .map (some r)
 | .agg cs, v => ∃ vs : List Value, v = .agg vs.toArray ∧ RelVC M σ η cs vs
 | .fn f fi ca, v => ∃ fs cs : List Value, v = .func f fs.toArray cs.toArray ∧ RelVL M σ η fi fs ∧ RelVL M σ η ca cs
 | .tuple us, v => ∃ vs : List Value, v = .tuple vs.toArray ∧ RelVL M σ η us vs
 | .otail k n i, v => k < σ.length ∧ (∃ b c, v = .slice b (n - i) c) ∧ ∀ e es l, σ[k]? = some (.arr e es l) → n ≤ l.length ∧ (l.length = n → ∃ b c, η k = .slice b n c ∧ v = .slice (if c = i then b else b.map (·.add (i * es))) (n - i) (c - i))
def RelVL (M : Mem) (σ : Sig) (η : Nat → Value) : List V → List Value → Prop
 | [], vs => vs = []
 | u :: us, vs => ∃ v r, vs = v :: r ∧ RelV M σ η u v ∧ RelVL M σ η us r
def RelVC (M : Mem) (σ : Sig) (η : Nat → Value) : List V → List Value → Prop
 | [], vs => vs = []
 | u :: us, vs => ∃ v r, vs = v :: r ∧ v.oneCell' = true ∧ RelV M σ η u v ∧ RelVC M σ η us r
end
def ObjRel (M : Mem) (σ : Sig) (η : Nat → Value) (w : World) (k : Nat) : Obj → Prop
 | .dead => True
 | .cells cs => ∃ b c e, η k = .pointer (some ⟨b, 0, none⟩) ∧ w.heap[b]? = some (.cells c e (0, 0)) ∧ RelVC M σ η cs c.toList
 | .arr e es l => l.length ≤ 4294967296 ∧ ∃ xs, w.ownsRow 0 e es (η k) l.length xs ∧ (∀ x ∈ xs, x.oneCell' = true) ∧ RelRow M (fun o v => xs[o]? = some v) es 0 l
 | .map l => ∃ r ents clock, η k = .map (some r) ∧ w.heap[r]? = some (.map ents clock) ∧ RelL M (l.map (·.1)) (ents.toList.map (·.key)) ∧ RelL M (l.map (·.2)) (ents.toList.map (·.val)) ∧
   (∀ x ∈ ents.toList, x.born < clock) ∧ (ents.toList.map (·.born)).Nodup
 | .raw p cs => ∃ b o, η k = .pointer (some ⟨b, 0, none⟩) ∧ w.heap[b]? = some (.loop o) ∧ p b o ∧ RelVL M σ η cs o.tmps.toList
structure SigRel (A : Nat → Prop) (σ : Sig) (η : Nat → Value) (w : World) : Prop where
 objs : ∀ k o, σ[k]? = some o → ObjRel (mem A η σ w) σ η w k o
 inj : ∀ k k' o o' b, σ[k]? = some o → o ≠ .dead → σ[k']? = some o' → o' ≠ .dead → homeBlock (η k) = some b → homeBlock (η k') = some b → k = k'
 out : ∀ b, Owned η σ b → ¬ A b ∧ b < w.heap.size
 bound : ∀ b, A b → b < w.heap.size
structure St (A : Nat → Prop) (N : Nat) (σ : Sig) (η : Nat → Value) (w : World) (E : Env) (tmps : Array Value) : Prop where
 sig : SigRel A σ η w
 size : tmps.size = N
 env : ∀ t, RelV (mem A η σ w) σ η (E t) (tmps.getD t undef)
def RowK (σ' : Sig) (η η' : Nat → Value) (k : Nat) (e : TypeId) (es : Nat) (l : List D) : Prop :=
 σ'[k]? = some .dead ∨ ∃ l', σ'[k]? = some (.arr e es l') ∧ (l.length < l'.length ∨ (l'.length = l.length ∧ η' k = η k))
structure Trans (m : Nat) (σ : Sig) (η : Nat → Value) (w : World) (σ' : Sig) (η' : Nat → Value) (w' : World) : Prop where
 os : w'.os = w.os
 tape : w'.tape = w.tape
 output : w'.output = w.output
 size : w.heap.size ≤ w'.heap.size
 keep : ∀ b, b < w.heap.size → ¬ Owned η σ b → w'.heap[b]? = w.heap[b]?
 own : ∀ b, Owned η' σ' b → Owned η σ b ∨ w.heap.size ≤ b
 box : ∀ k cs, k < m → σ[k]? = some (.cells cs) → (∃ cs', σ'[k]? = some (.cells cs')) ∧ η' k = η k
 map : ∀ k l, k < m → σ[k]? = some (.map l) → (∃ l', σ'[k]? = some (.map l')) ∧ η' k = η k
 row : ∀ k e es l, k < m → σ[k]? = some (.arr e es l) → RowK σ' η η' k e es l
 gone : ∀ k, k < m → σ[k]? = some .dead → σ'[k]? = some .dead
 raw : ∀ k p cs, k < m → σ[k]? = some (.raw p cs) → (∃ p' cs', σ'[k]? = some (.raw p' cs')) ∧ η' k = η k
theorem Trans.refl (m : Nat) (σ : Sig) (η : Nat → Value) (w : World) : Trans m σ η w σ η w :=
 ⟨rfl, rfl, rfl, Nat.le_refl _, fun _ _ _ => rfl, fun _ h => .inl h, fun _ cs _ h => ⟨⟨cs, h⟩, rfl⟩, fun _ l _ h => ⟨⟨l, h⟩, rfl⟩, fun _ _ _ l _ h => .inr ⟨l, h, .inr ⟨rfl, rfl⟩⟩, fun _ _ h => h, fun _ p cs _ h => ⟨⟨p, cs, h⟩, rfl⟩⟩
theorem Trans.trans {m : Nat} {σ σ₁ σ₂ : Sig} {η η₁ η₂ : Nat → Value} {w w₁ w₂ : World} (h : Trans m σ η w σ₁ η₁ w₁) (k : Trans m σ₁ η₁ w₁ σ₂ η₂ w₂) : Trans m σ η w σ₂ η₂ w₂ where
 os := k.os.trans h.os
 tape := k.tape.trans h.tape
 output := k.output.trans h.output
 size := Nat.le_trans h.size k.size
 keep := fun b hb hn => (k.keep b (Nat.lt_of_lt_of_le hb h.size) (fun ho => (h.own b ho).elim hn (fun hl => absurd hb (Nat.not_lt.2 hl)))).trans (h.keep b hb hn)
 own := fun b ho => (k.own b ho).elim (fun h1 => h.own b h1) (fun hl => .inr (Nat.le_trans h.size hl))
 box := fun i cs hi hs => by
  obtain ⟨⟨cs1, h1⟩, e1⟩ := h.box i cs hi hs
  obtain ⟨⟨cs2, h2⟩, e2⟩ := k.box i cs1 hi h1
  exact ⟨⟨cs2, h2⟩, e2.trans e1⟩
 map := fun i l hi hs => by
  obtain ⟨⟨cs1, h1⟩, e1⟩ := h.map i l hi hs
  obtain ⟨⟨cs2, h2⟩, e2⟩ := k.map i cs1 hi h1
  exact ⟨⟨cs2, h2⟩, e2.trans e1⟩
 row := fun i e es l hi hs => by
  rcases h.row i e es l hi hs with h1 | ⟨l1, h1, h2⟩
  ·exact .inl (k.gone i hi h1)
  ·rcases k.row i e es l1 hi h1 with h3 | ⟨l2, h3, h4⟩
   ·exact .inl h3
   ·refine .inr ⟨l2, h3, ?_⟩
    rcases h2 with h2 | ⟨h2, h5⟩ <;> rcases h4 with h4 | ⟨h4, h6⟩
    ·exact .inl (by omega)
    ·exact .inl (by omega)
    ·exact .inl (by omega)
    ·exact .inr ⟨by omega, h6.trans h5⟩
 gone := fun i hi hs => k.gone i hi (h.gone i hi hs)
 raw := fun i p l hi hs => by
  obtain ⟨⟨p1, cs1, h1⟩, e1⟩ := h.raw i p l hi hs
  obtain ⟨⟨p2, cs2, h2⟩, e2⟩ := k.raw i p1 cs1 hi h1
  exact ⟨⟨p2, cs2, h2⟩, e2.trans e1⟩
theorem Trans.le {m m' : Nat} (h : m' ≤ m) {σ σ' : Sig} {η η' : Nat → Value} {w w' : World} (k : Trans m σ η w σ' η' w') : Trans m' σ η w σ' η' w' :=
 { k with box := fun i cs hi => k.box i cs (Nat.lt_of_lt_of_le hi h), map := fun i cs hi => k.map i cs (Nat.lt_of_lt_of_le hi h), raw := fun i p cs hi => k.raw i p cs (Nat.lt_of_lt_of_le hi h), row := fun i e es l hi => k.row i e es l (Nat.lt_of_lt_of_le hi h), gone := fun i hi => k.gone i (Nat.lt_of_lt_of_le hi h) }
abbrev Post := Exit → Env → Sig → Prop
def fw (r : Option Nat) : Fence := { Fence.wide with round := r }
theorem fw_room (r : Option Nat) (n : Nat) : (fw r).room n := fun _ h => by simp [fw, Fence.wide] at h
def Marks (n0 : Nat) (ds : List Deferred) (w : World) : Prop := n0 ≤ w.heap.size ∧ (∃ Ds : List Nat, ds = Ds.map (fun D => { target := .collected D, args := #[] }) ∧ Ds.Nodup ∧ ∀ D ∈ Ds, n0 ≤ D ∧ w.heap[D]? = some (.deferred (some [])))
def post (m : Nat) (A : Nat → Prop) (N : Nat) (σ : Sig) (η : Nat → Value) (w : World) (n0 : Nat) (Q : Post) : Exit → Act → World → Prop := fun e a w' =>
 ∃ E' σ' η', Q e E' σ' ∧ St A N σ' η' w' E' a.tmps ∧ Marks n0 a.defers w' ∧ Trans m σ η w σ' η' w'
def RoundOk (r : Option Nat) (m : Nat) (σ : Sig) (η : Nat → Value) : Prop := ∀ l, r = some l → ∃ k p cs, k < m ∧ σ[k]? = some (.raw p cs) ∧ η k = .pointer (some ⟨l, 0, none⟩)
theorem RoundOk.none {m : Nat} {σ : Sig} {η : Nat → Value} : RoundOk none m σ η := fun l h => by cases h
theorem RoundOk.trans {r : Option Nat} {m : Nat} {σ σ' : Sig} {η η' : Nat → Value} {w w' : World} (h : RoundOk r m σ η) (t : Trans m σ η w σ' η' w') : RoundOk r m σ' η' := fun l hl => by
 obtain ⟨k, p, cs, h1, h2, h3⟩ := h l hl
 obtain ⟨⟨p', cs', h4⟩, h5⟩ := t.raw k p cs h1 h2
 exact ⟨k, p', cs', h1, h4, h5.trans h3⟩
def VC (P : Program) (m N : Nat) (c : Code) (Q : Post) (E : Env) (σ : Sig) : Prop :=
 ∀ (r : Option Nat) (n n0 : Nat) A η w tmps ds, St A N σ η w E tmps → Marks n0 ds w → RoundOk r m σ η → c.wpIn (fw r) n P (post m A N σ η w n0 Q) { tmps, defers := ds } w
theorem Marks.nil {n0 : Nat} {w : World} (h : n0 ≤ w.heap.size) : Marks n0 [] w := ⟨h, [], rfl, by simp, fun d hd => by simp at hd⟩
theorem not_owned_mark {A : Nat → Prop} {σ : Sig} {η : Nat → Value} {w : World} (hs : SigRel A σ η w) {D : Nat} {x : Option (List Deferred)} (h : w.heap[D]? = some (.deferred x)) : ¬ Owned η σ D := by
 rintro ⟨k, o, hk, hd, hb⟩
 have hr := hs.objs k o hk
 cases o with
 | dead => exact hd rfl
 | cells cs => simp only [ObjRel] at hr; obtain ⟨b, c, e, h1, h2, _⟩ := hr; rw [h1] at hb; simp [homeBlock] at hb; subst hb; rw [h] at h2; cases h2
 | arr e es l =>
  simp only [ObjRel] at hr; obtain ⟨_, xs, h1, _⟩ := hr
  rcases h1.2 with ⟨e1, _⟩ | ⟨g, cap, cur, e1, _, e3, _⟩
  ·rw [e1] at hb; simp [homeBlock] at hb
  ·rw [e1] at hb; simp [homeBlock] at hb; subst hb; rw [h] at e3; cases e3
 | map l => simp only [ObjRel] at hr; obtain ⟨r, en, cl, h1, h2, _⟩ := hr; rw [h1] at hb; simp [homeBlock] at hb; subst hb; rw [h] at h2; cases h2
 | raw p cs => simp only [ObjRel] at hr; obtain ⟨b, o, h1, h2, _⟩ := hr; rw [h1] at hb; simp [homeBlock] at hb; subst hb; rw [h] at h2; cases h2
theorem Marks.trans {m : Nat} {A : Nat → Prop} {σ σ' : Sig} {η η' : Nat → Value} {w w' : World} {n0 : Nat} {ds : List Deferred} (h : Marks n0 ds w) (hs : SigRel A σ η w) (t : Trans m σ η w σ' η' w') : Marks n0 ds w' :=
 ⟨Nat.le_trans h.1 t.size, by
  obtain ⟨Ds, h1, h2, h3⟩ := h.2
  exact ⟨Ds, h1, h2, fun D hD => ⟨(h3 D hD).1, by rw [t.keep D (Array.getElem?_eq_some_iff.1 (h3 D hD).2).1 (not_owned_mark hs (h3 D hD).2)]; exact (h3 D hD).2⟩⟩⟩
def Weak (m : Nat) (E : Env) (σ : Sig) (E' : Env) (σ' : Sig) : Prop :=
 ∀ A N η w tmps, St A N σ η w E tmps → ∃ η', St A N σ' η' w E' tmps ∧ Trans m σ η w σ' η' w
theorem Weak.trans {m : Nat} {E E₁ E₂ : Env} {σ σ₁ σ₂ : Sig} (h : Weak m E σ E₁ σ₁) (k : Weak m E₁ σ₁ E₂ σ₂) : Weak m E σ E₂ σ₂ := fun A N η w tmps hs => by
 obtain ⟨η₁, hs₁, t₁⟩ := h A N η w tmps hs
 obtain ⟨η₂, hs₂, t₂⟩ := k A N η₁ w tmps hs₁
 exact ⟨η₂, hs₂, t₁.trans t₂⟩
section rules
variable {P : Program} {m N : Nat} {Q : Post} {E : Env} {σ : Sig}
theorem post_trans {A : Nat → Prop} {σ₁ : Sig} {η η₁ : Nat → Value} {w w₁ : World} {n0 : Nat} (ht : Trans m σ η w σ₁ η₁ w₁) {e : Exit} {a : Act} {w' : World} (h : post m A N σ₁ η₁ w₁ n0 Q e a w') :
  post m A N σ η w n0 Q e a w' := by
 obtain ⟨E', σ', η', q, s, d, t⟩ := h
 exact ⟨E', σ', η', q, s, d, ht.trans t⟩
theorem VC.weak {c : Code} {E' : Env} {σ' : Sig} (h : Weak m E σ E' σ') (k : VC P m N c Q E' σ') : VC P m N c Q E σ := fun r n n0 A η w tmps ds hs hd ho => by
 obtain ⟨η', hs', t⟩ := h A N η w tmps hs
 exact wpIn_mono (k r n n0 A η' w tmps ds hs' hd (ho.trans t)) (fun e a w' hp => post_trans t hp)
theorem VC.monoWeak {c : Code} {Q' : Post} (h : VC P m N c Q' E σ) (hq : ∀ e E σ, Q' e E σ → ∃ E' σ', Weak m E σ E' σ' ∧ Q e E' σ') : VC P m N c Q E σ := fun r n n0 A η w tmps ds hs hd ho =>
 wpIn_mono (h r n n0 A η w tmps ds hs hd ho) (fun _ _ _ ⟨E', σ', η', q, s, d, t⟩ => by
  obtain ⟨E₂, σ₂, hw, q₂⟩ := hq _ _ _ q
  obtain ⟨η₂, s₂, t₂⟩ := hw _ _ _ _ _ s
  exact ⟨E₂, σ₂, η₂, q₂, s₂, d, t.trans t₂⟩)
def QThen (P : Program) (m N : Nat) (y : Code) (Q : Post) : Post
 | .normal, E, σ => VC P m N y Q E σ
 | e, E, σ => Q e E σ
theorem vc_skip (h : Q .normal E σ) : VC P m N .skip Q E σ := fun _ _ _ _ η w _ _ hs hd _ => wpIn_skip ⟨E, σ, η, h, hs, hd, .refl _ _ _ _⟩
theorem vc_label {l : Nat} (h : Q .normal E σ) : VC P m N (.label l) Q E σ := fun _ _ _ _ η w _ _ hs hd _ => wpIn_label ⟨E, σ, η, h, hs, hd, .refl _ _ _ _⟩
theorem vc_ret (h : Q .ret E σ) : VC P m N .ret Q E σ := fun _ _ _ _ η w _ _ hs hd _ => wpIn_ret ⟨E, σ, η, h, hs, hd, .refl _ _ _ _⟩
theorem vc_exit {id : Nat} (h : Q (.exit id) E σ) : VC P m N (.exit id) Q E σ := fun _ _ _ _ η w _ _ hs hd _ => wpIn_exit ⟨E, σ, η, h, hs, hd, .refl _ _ _ _⟩
theorem vc_seq {x y : Code} (h : VC P m N x (QThen P m N y Q) E σ) : VC P m N (.seq x y) Q E σ := fun r n n0 A η w tmps ds hs hd ho => by
 refine wpIn_seq (wpIn_mono (h r n n0 A η w tmps ds hs hd ho) ?_)
 rintro e ⟨tm, df⟩ w' ⟨E', σ', η', q, s, d, t⟩
 cases e with
 | normal => exact wpIn_mono (q r n n0 A η' w' tm df s d (ho.trans t)) (fun _ _ _ hp => post_trans t hp)
 | _ => exact ⟨E', σ', η', q, s, d, t⟩
def QBlock (id : Nat) (Q : Post) : Post
 | .exit id', E, σ => if id' = id then Q .normal E σ else Q (.exit id') E σ
 | e, E, σ => Q e E σ
theorem vc_block {id : Nat} {c : Code} (h : VC P m N c (QBlock id Q) E σ) : VC P m N (.block id c) Q E σ := fun r n n0 A η w tmps ds hs hd ho => by
 refine wpIn_block (wpIn_mono (h r n n0 A η w tmps ds hs hd ho) ?_)
 rintro e a w' ⟨E', σ', η', q, s, d, t⟩
 cases e with
 | exit id' =>
  simp only [Exit.inBlock]
  simp only [QBlock] at q
  split
  ·rename_i he; rw [if_pos he] at q; exact ⟨E', σ', η', q, s, d, t⟩
  ·rename_i he; rw [if_neg he] at q; exact ⟨E', σ', η', q, s, d, t⟩
 | _ => exact ⟨E', σ', η', q, s, d, t⟩
def QScope (Q : Post) : Post
 | .goto _, _, _ => False
 | e, E, σ => Q e E σ
theorem wpIn_scope {F : Fence} {n : Nat} {c : Code} {Q : Exit → Act → World → Prop} {a : Act} {w : World} (h : c.wpIn F n P (Exit.noGoto Q) a w) : (Code.scope c).wpIn F n P Q a w := by
 intro b k cs hro hb hr
 obtain ⟨e, a₁, w₁, hq, harr⟩ := h b (.inScope c :: k) cs hro hb hr
 have s0 : StepsIn (Machine.fenced P F) P (lone (b.atR a (.code (.scope c) :: k)) cs w) (lone (b.atR a (.code c :: .inScope c :: k)) cs w) := .one (fenced_calm hb hr rfl) (step_lone_go (by simp [stepG, stepG.exec, Frame.atR]))
 cases e with
 | normal => exact ⟨.normal, a₁, w₁, hq, .of_steps s0 (StepsIn.trans harr (.one (fenced_calm hb hr rfl) (step_lone_go (by simp [stepG, stepG.exec, Frame.atR]))))⟩
 | exit id => exact ⟨.exit id, a₁, w₁, hq, .of_steps s0 ⟨fun k' hk => harr.1 k' (by simp [exitTo, hk]), fun hr' hk => harr.2 hr' (by simp [exitTo, hk])⟩⟩
 | goto l => exact hq.elim
 | ret => exact ⟨_, a₁, w₁, hq, .of_steps s0 harr⟩
 | panic ch => exact ⟨_, a₁, w₁, hq, .of_steps s0 harr⟩
 | outgrown => exact ⟨_, a₁, w₁, hq, .of_steps s0 harr⟩
theorem vc_scope {c : Code} (h : VC P m N c (QScope Q) E σ) : VC P m N (.scope c) Q E σ := fun r n n0 A η w tmps ds hs hd ho => by
 refine wpIn_scope (wpIn_mono (h r n n0 A η w tmps ds hs hd ho) ?_)
 rintro e a w' ⟨E', σ', η', q, s, d, t⟩
 cases e with
 | goto l => exact q.elim
 | _ => exact ⟨E', σ', η', q, s, d, t⟩
def RW (P : Program) (r : Option Nat) (c : Code) (Q : Exit → Act → World → Prop) (a : Act) (w : World) : Prop :=
 ∀ (b : Frame) (k : List Item) (cs : List Frame), b.roundOf = r → ∃ e a' w', Q e a' w' ∧ ArrivesIn (Machine.fenced P (fw r)) P (lone (b.atR a (.code c :: .inLoop c :: k)) cs w) b k cs e a' w'
theorem RW.loop {r : Option Nat} {n : Nat} {c : Code} {Q : Exit → Act → World → Prop} {a : Act} {w : World} (h : RW P r c Q a w) : (Code.loop c).wpIn (fw r) n P Q a w := fun b k cs hro hb hr =>
 let ⟨e, a', w', q, ar⟩ := h b k cs hro; ⟨e, a', w', q, .of_steps (.one (fenced_calm (n := n) hb hr rfl) stepR_loop) ar⟩
theorem RW.mono {r : Option Nat} {c : Code} {Q Q' : Exit → Act → World → Prop} {a : Act} {w : World} (h : RW P r c Q a w) (hq : ∀ e a w, Q e a w → Q' e a w) : RW P r c Q' a w := fun b k cs hro =>
 let ⟨e, a', w', q, ar⟩ := h b k cs hro; ⟨e, a', w', hq _ _ _ q, ar⟩
theorem RW.unroll {r : Option Nat} {c : Code} {Q : Exit → Act → World → Prop} {a : Act} {w : World} (h : c.wpIn (fw r) 0 P (Exit.then (RW P r c Q) Q) a w) : RW P r c Q a w := by
 intro b k cs hro
 obtain ⟨e, a₁, w₁, hq, harr⟩ := h b (.inLoop c :: k) cs hro trivial (fw_room _ _)
 cases e with
 | normal =>
  obtain ⟨e₂, a₂, w₂, hq₂, harr₂⟩ := hq b k cs hro
  exact ⟨e₂, a₂, w₂, hq₂, .of_steps (StepsIn.trans harr (.one (fenced_calm (n := 0) trivial (fw_room _ _) rfl) stepR_inLoop)) harr₂⟩
 | exit id => exact ⟨_, a₁, w₁, hq, .pass (x := .inLoop c) rfl (fun _ _ => .inl (by simp)) harr⟩
 | goto l => exact ⟨_, a₁, w₁, hq, .pass (x := .inLoop c) rfl (fun _ _ => .inl (by simp)) harr⟩
 | ret => exact ⟨_, a₁, w₁, hq, .pass (x := .inLoop c) rfl (fun _ _ => .inl (by simp)) harr⟩
 | panic ch => exact ⟨_, a₁, w₁, hq, .pass (x := .inLoop c) rfl (fun _ _ => .inl (by simp)) harr⟩
 | outgrown => exact ⟨_, a₁, w₁, hq, .pass (x := .inLoop c) rfl (fun _ _ => .inl (by simp)) harr⟩
def VCL (P : Program) (m N : Nat) (c : Code) (Q : Post) (E : Env) (σ : Sig) : Prop :=
 ∀ (r : Option Nat) (n0 : Nat) A η w tmps ds, St A N σ η w E tmps → Marks n0 ds w → RoundOk r m σ η → RW P r c (post m A N σ η w n0 Q) { tmps, defers := ds } w
def QLoop (P : Program) (m N : Nat) (c : Code) (Q : Post) : Post
 | .normal, E, σ => VCL P m N c Q E σ
 | e, E, σ => Q e E σ
theorem vc_loop {c : Code} (h : VCL P m N c Q E σ) : VC P m N (.loop c) Q E σ := fun r n n0 A η w tmps ds hs hd ho => (h r n0 A η w tmps ds hs hd ho).loop
theorem vcl_unroll {c : Code} (h : VC P m N c (QLoop P m N c Q) E σ) : VCL P m N c Q E σ := fun r n0 A η w tmps ds hs hd ho => by
 refine RW.unroll (wpIn_mono (h r 0 n0 A η w tmps ds hs hd ho) ?_)
 rintro e ⟨tm, df⟩ w' ⟨E', σ', η', q, s, d, t⟩
 cases e with
 | normal => exact (q r n0 A η' w' tm df s d (ho.trans t)).mono (fun _ _ _ hp => post_trans t hp)
 | _ => exact ⟨E', σ', η', q, s, d, t⟩
theorem VCL.weak {c : Code} {E' : Env} {σ' : Sig} (h : Weak m E σ E' σ') (k : VCL P m N c Q E' σ') : VCL P m N c Q E σ := fun r n0 A η w tmps ds hs hd ho => by
 obtain ⟨η', hs', t⟩ := h A N η w tmps hs
 exact (k r n0 A η' w tmps ds hs' hd (ho.trans t)).mono (fun e a w' hp => post_trans t hp)
theorem vc_cond_true {c : Operand} {x y : Code} (hc : ∀ (tmps : Array Value) (ds : List Deferred) A η w, St A N σ η w E tmps → (Act.mk tmps ds).eval c = .bool true) (h : VC P m N x Q E σ) : VC P m N (.cond c x y) Q E σ :=
 fun r n n0 A η w tmps ds hs hd ho => wpIn_cond_true (hc tmps ds A η w hs) (h r n n0 A η w tmps ds hs hd ho)
theorem vc_cond_false {c : Operand} {x y : Code} (hc : ∀ (tmps : Array Value) (ds : List Deferred) A η w, St A N σ η w E tmps → (Act.mk tmps ds).eval c = .bool false) (h : VC P m N y Q E σ) : VC P m N (.cond c x y) Q E σ :=
 fun r n n0 A η w tmps ds hs hd ho => wpIn_cond_false (hc tmps ds A η w hs) (h r n n0 A η w tmps ds hs hd ho)
end rules
def ev (E : Env) : Operand → V
 | .tmp t => E t
 | .const v => .d (.lit v)
 | .global _ => .any
 | .func f => .d (.fn (.func f) [] [])
theorem St.eval {A : Nat → Prop} {N : Nat} {σ : Sig} {η : Nat → Value} {w : World} {E : Env} {tmps : Array Value} (h : St A N σ η w E tmps) (df : List Deferred) (x : Operand) :
  RelV (mem A η σ w) σ η (ev E x) ((Act.mk tmps df).eval x) := by
 cases x with
 | tmp t => exact h.env t
 | const v => simp [ev, RelV, Rel, Act.eval]
 | global g => simp [ev, RelV]
 | func f => simp [ev, RelV, Rel, Act.eval, RelL]
section cond
variable {P : Program} {m N : Nat} {Q : Post} {E : Env} {σ : Sig}
theorem vc_cond {c : Operand} {x y : Code} {b : Bool} (hc : ev E c = .d (.lit (.bool b))) (ht : b = true → VC P m N x Q E σ) (hf : b = false → VC P m N y Q E σ) : VC P m N (.cond c x y) Q E σ := by
 have key : ∀ (tmps : Array Value) (ds : List Deferred) A η w, St A N σ η w E tmps → (Act.mk tmps ds).eval c = .bool b := fun tmps ds A η w hs => by
  have := hs.eval ds c
  rw [hc] at this
  simpa [RelV, Rel] using this
 cases b with
 | true => exact vc_cond_true key (ht rfl)
 | false => exact vc_cond_false key (hf rfl)
end cond
end Go.VM
namespace Go.VM
inductive TD where
 | int (k : IntKind) | bool | str | slice (e : TypeId) | struct (fs : List (TypeId × Nat)) | map (k e : TypeId) | ptr (e : TypeId) | func | iface | array (n : Nat) (e : TypeId)
structure TI where
 td : TD
 size : Nat
 bytes : Nat
 zero : D
 eqok : Bool
 meths : List (String × FuncId) := []
abbrev Tab := Nat → Option TI
def TI.isAgg (i : TI) : Bool := match i.td with | .struct _ | .array _ _ => true | _ => false
def TDOk : TD → TypeDesc → Prop
 | .int k, .int k' => k = k'
 | .bool, .bool => True
 | .str, .string => True
 | .slice e, .slice e' => e = e'
 | .struct fs, .struct fields => fs = fields.toList.map (fun f => (f.type, f.offset)) ∧ ∀ f ∈ fields.toList, f.name ≠ "_"
 | .map k e, .map k' e' => k = k' ∧ e = e'
 | .ptr e, .pointer e' => e = e'
 | .func, .func _ _ _ => True
 | .iface, .interface _ => True
 | .array n e, .array n' e' => n = n' ∧ e = e'
 | _, _ => False
structure TIOk (P : Program) (t : TypeId) (ti : TI) : Prop where
 desc : ∃ d, P.underlying t = some d ∧ TDOk ti.td d
 info : ∃ i, P.info? t = some i ∧ i.size = ti.size ∧ i.bytes = ti.bytes ∧ ∃ z, i.zero = some z ∧ (∀ M, RelC M ti.zero.cells z.cells.toList) ∧ z.cells.size = ti.size
 places : ∀ fs, ti.td = .struct fs → ∀ fields, P.underlying t = some (.struct fields) → ∃ pl, fields.toList.mapM (fun f => (P.info? f.type).map fun i => (f.offset, i.size)) = some pl
 meth : ∀ x ∈ ti.meths, (∃ i m, P.info? t = some i ∧ i.methods.find? (·.name == x.1) = some m ∧ m.path = #[] ∧ m.func = some (x.2, false)) ∧ ∀ e, P.underlying t ≠ some (.pointer e)
 eq : ti.eqok = true → P.eqGuardType P.depth t = false ∧ P.stoodInHeld t = false
def TabOk (P : Program) (T : Tab) : Prop := ∀ t ti, T t = some ti → TIOk P t ti
def V.cells : V → List V
 | .d x => x.cells.map .d
 | .agg cs => cs
 | v => [v]
def allD : List V → Option (List D)
 | [] => some []
 | .d x :: r => match allD r with | some l => some (x :: l) | none => none
 | _ :: _ => none
def mkAgg (l : List V) : V := match allD l with | some ds => .d (.agg ds) | none => .agg l
def sliceL {α : Type} : Nat → Nat → List α → Option (List α)
 | 0, 0, _ => some []
 | 0, n + 1, x :: l => match sliceL 0 n l with | some r => some (x :: r) | none => none
 | off + 1, n, _ :: l => sliceL off n l
 | 0, _ + 1, [] => none
 | _ + 1, _, [] => none
theorem sliceL_eq {α : Type} : ∀ (off n : Nat) (l : List α), off ≤ l.length → sliceL off n l = if off + n ≤ l.length then some ((l.drop off).take n) else none
 | 0, 0, l, _ => by simp [sliceL]
 | 0, n + 1, [], _ => by simp [sliceL]
 | 0, n + 1, x :: l, _ => by
  have ih := sliceL_eq 0 n l (Nat.zero_le _)
  simp only [Nat.zero_add, List.drop_zero] at ih
  simp only [sliceL, ih, Nat.zero_add, List.length_cons, List.drop_zero, List.take_succ_cons]
  by_cases h : n ≤ l.length
  ·rw [if_pos h, if_pos (by omega)]
  ·rw [if_neg h, if_neg (by omega)]
 | off + 1, n, [], h => by simp at h
 | off + 1, n, x :: l, h => by
  rw [sliceL, sliceL_eq off n l (by simpa using h)]
  simp only [List.length_cons, List.drop_succ_cons]
  by_cases h : off + n ≤ l.length
  ·rw [if_pos h, if_pos (by omega)]
  ·rw [if_neg h, if_neg (by omega)]
theorem sliceL_none {α : Type} : ∀ (off n : Nat) (l : List α), l.length < off → sliceL off n l = none
 | 0, _, l, h => by omega
 | off + 1, n, [], _ => by simp [sliceL]
 | off + 1, n, x :: l, h => by rw [sliceL, sliceL_none off n l (by simp at h; omega)]
theorem sliceL_some {α : Type} {off n : Nat} {l r : List α} (h : sliceL off n l = some r) : off + n ≤ l.length ∧ r = (l.drop off).take n := by
 by_cases ho : off ≤ l.length
 ·rw [sliceL_eq off n l ho] at h
  split at h
  ·rename_i hc; simp at h; exact ⟨hc, h.symm⟩
  ·simp at h
 ·rw [sliceL_none off n l (by omega)] at h; simp at h
def putL {α : Type} : List α → Nat → List α → Option (List α)
 | cs, 0, [] => some cs
 | _ :: cs, 0, n :: new => match putL cs 0 new with | some r => some (n :: r) | none => none
 | c :: cs, off + 1, new => match putL cs off new with | some r => some (c :: r) | none => none
 | [], 0, _ :: _ => none
 | [], _ + 1, _ => none
theorem putL_some {α : Type} : ∀ {cs : List α} {off : Nat} {new r : List α}, putL cs off new = some r → off + new.length ≤ cs.length ∧ r = cs.take off ++ new ++ cs.drop (off + new.length)
 | cs, 0, [], r, h => by simp [putL] at h; subst h; simp
 | _ :: cs, 0, n :: new, r, h => by
  simp only [putL] at h
  split at h
  ·rename_i r' h'
   simp at h; subst h
   obtain ⟨h1, h2⟩ := putL_some h'
   subst h2
   simp only [List.length_cons, List.take_zero, List.nil_append, Nat.zero_add] at h1 ⊢
   exact ⟨by omega, by simp⟩
  ·simp at h
 | c :: cs, off + 1, new, r, h => by
  simp only [putL] at h
  split at h
  ·rename_i r' h'
   simp at h; subst h
   obtain ⟨h1, h2⟩ := putL_some h'
   subst h2
   refine ⟨by simp; omega, ?_⟩
   rw [show off + 1 + new.length = (off + new.length) + 1 by omega]
   simp
  ·simp at h
 | [], 0, _ :: _, _, h => by simp [putL] at h
 | [], _ + 1, _, _, h => by simp [putL] at h
def dcells : List D → Option (List V)
 | [] => some []
 | d :: r => match dcells r with | some l => some (.d d :: l) | none => none
theorem dcells_eq : ∀ l : List D, dcells l = some (l.map .d)
 | [] => rfl
 | d :: l => by simp [dcells, dcells_eq l]
def cellsF : V → Option (List V)
 | .d x => dcells x.cells
 | .agg cs => some cs
 | .own k o => some [.own k o]
 | .osl k n => some [.osl k n]
 | .optr k n i o => some [.optr k n i o]
 | .omap k => some [.omap k]
 | .fn f a b => some [.fn f a b]
 | .any => some [.any]
 | .tuple l => some [.tuple l]
 | .otail k n i => some [.otail k n i]
theorem cellsF_eq (v : V) : cellsF v = some v.cells := by cases v <;> simp [cellsF, V.cells, dcells_eq]
def partV0 (ti : TI) (cs : List V) (off : Nat) : Option V :=
 match ti.isAgg with
 | true => if off + ti.size ≤ cs.length then some (mkAgg ((cs.drop off).take ti.size)) else none
 | false => cs[off]?
def partD0 (ti : TI) (cs : List D) (off : Nat) : Option D :=
 match ti.isAgg with
 | true => if off + ti.size ≤ cs.length then some (.agg ((cs.drop off).take ti.size)) else none
 | false => cs[off]?
def putAt (cs : List V) (off : Nat) (new : List V) : List V := cs.take off ++ new ++ cs.drop (off + new.length)
def fillV0 (place : Nat → Option (Nat × Nat)) (cs : List V) : List (Nat × V) → Option (List V)
 | [] => some cs
 | (i, v) :: r =>
  match place i with
  | some (off, size) => if v.cells.length = size ∧ off + size ≤ cs.length then fillV0 place (putAt cs off v.cells) r else none
  | none => none
def structPlace (T : Tab) (fs : List (TypeId × Nat)) (i : Nat) : Option (Nat × Nat) :=
 match fs[i]? with
 | some (t, off) => match T t with | some ti => some (off, ti.size) | none => none
 | none => none
def V.whole : V → Bool
 | .d (.tuple _) | .any | .tuple _ => false
 | .d (.lit v) => v.oneCell'
 | _ => true
def buildV0 (T : Tab) (t : TypeId) (parts : List (Nat × V)) : Option V :=
 match T t with
 | some ti =>
  match ti.td with
  | .struct fs => if parts.all (·.2.whole) then (match fillV0 (structPlace T fs) (ti.zero.cells.map .d) parts with | some cs => some (mkAgg cs) | none => none) else none
  | _ => none
 | none => none
def V.force : V → Option V
 | .d x => some (.d x)
 | .any => some .any
 | .own k o => some (.own k o)
 | .osl k n => some (.osl k n)
 | .optr k n i o => some (.optr k n i o)
 | .omap k => some (.omap k)
 | .agg cs => some (.agg cs)
 | .fn f a b => some (.fn f a b)
 | .tuple l => some (.tuple l)
 | .otail k n i => some (.otail k n i)
theorem V.force_eq {u v : V} (h : u.force = some v) : v = u := by cases u <;> simp [V.force] at h <;> exact h.symm
def partV (ti : TI) (cs : List V) (off : Nat) : Option V :=
 match ti.isAgg with
 | true => match sliceL off ti.size cs with | some r => (mkAgg r).force | none => none
 | false => match sliceL off 1 cs with | some [v] => v.force | _ => none
def partD (ti : TI) (cs : List D) (off : Nat) : Option D :=
 match ti.isAgg with
 | true => match sliceL off ti.size cs with | some r => some (.agg r) | none => none
 | false => match sliceL off 1 cs with | some [v] => some v | _ => none
theorem slice_one {α : Type} {cs : List α} {off : Nat} {v : α} (h : sliceL off 1 cs = some [v]) : cs[off]? = some v := by
 obtain ⟨h1, h2⟩ := sliceL_some h
 rw [List.drop_eq_getElem_cons (by omega)] at h2
 have h3 : v = cs[off] := by simp only [List.take_succ_cons, List.take_zero, List.cons.injEq, and_true] at h2; exact h2
 rw [h3]; exact List.getElem?_eq_getElem (by omega)
theorem partV_old {ti : TI} {cs : List V} {off : Nat} {v : V} (h : partV ti cs off = some v) : partV0 ti cs off = some v := by
 unfold partV at h
 unfold partV0
 split at h
 ·rename_i ha
  split at h
  ·rename_i r hr
   obtain ⟨h1, h2⟩ := sliceL_some hr
   rw [if_pos h1, ← h2, V.force_eq h]
  ·simp at h
 ·rename_i ha
  split at h
  ·rename_i u hu
   rw [slice_one hu, V.force_eq h]
  ·simp at h
theorem partD_old {ti : TI} {cs : List D} {off : Nat} {v : D} (h : partD ti cs off = some v) : partD0 ti cs off = some v := by
 unfold partD at h
 unfold partD0
 split at h
 ·rename_i ha
  split at h
  ·rename_i r hr
   obtain ⟨h1, h2⟩ := sliceL_some hr
   rw [if_pos h1, ← h2]; exact h
  ·simp at h
 ·rename_i ha
  split at h
  ·rename_i u hu
   rw [slice_one hu]; exact h
  ·simp at h
def fillV (place : Nat → Option (Nat × Nat)) (cs : List V) : List (Nat × V) → Option (List V)
 | [] => some cs
 | (i, v) :: r =>
  match place i, cellsF v with
  | some (off, size), some new => match Nat.beq new.length size with
   | true => match putL cs off new with | some cs' => fillV place cs' r | none => none
   | false => none
  | _, _ => none
theorem fillV_old {place : Nat → Option (Nat × Nat)} : ∀ {r : List (Nat × V)} {cs out : List V}, fillV place cs r = some out → fillV0 place cs r = some out
 | [], cs, out, h => h
 | (i, v) :: r, cs, out, h => by
  simp only [fillV, cellsF_eq] at h
  simp only [fillV0]
  split at h
  ·rename_i off size new h1 h2
   simp at h2; subst h2
   rw [h1]
   simp only
   split at h
   ·rename_i hb
    have hb := Nat.eq_of_beq_eq_true hb
    split at h
    ·rename_i cs' hp
     obtain ⟨h3, h4⟩ := putL_some hp
     rw [if_pos ⟨hb, by omega⟩]
     have : putAt cs off v.cells = cs' := by rw [h4]; rfl
     rw [this]
     exact fillV_old h
    ·simp at h
   ·simp at h
  ·simp at h
def buildV (T : Tab) (t : TypeId) (parts : List (Nat × V)) : Option V :=
 match T t with
 | some ti =>
  match ti.td with
  | .struct fs => match parts.all (·.2.whole), dcells ti.zero.cells with
   | true, some z => (match fillV (structPlace T fs) z parts with | some cs => (mkAgg cs).force | none => none)
   | _, _ => none
  | _ => none
 | none => none
theorem buildV_old {T : Tab} {t : TypeId} {parts : List (Nat × V)} {v : V} (h : buildV T t parts = some v) : buildV0 T t parts = some v := by
 unfold buildV at h
 unfold buildV0
 split at h
 ·rename_i ti hti
  split at h
  ·rename_i fs hfs
   rw [dcells_eq] at h
   split at h
   ·rename_i z hw hz
    simp at hz; subst hz
    rw [if_pos hw]
    split at h
    ·rename_i cs hcs
     rw [fillV_old hcs, V.force_eq h]
    ·simp at h
   ·simp at h
  ·simp at h
 ·simp at h
def eqTy (T : Tab) : Nat → TypeId → List D → List D → Option Bool
 | 0, _, _, _ => none
 | n + 1, t, xs, ys =>
  match T t with
  | some ti =>
   match ti.td, xs, ys with
   | .int _, [.lit (.int k a)], [.lit (.int k' b)] => if k = k' then some (a == b) else none
   | .bool, [.lit (.bool a)], [.lit (.bool b)] => some (a == b)
   | .str, [.lit (.string a)], [.lit (.string b)] => some (a == b)
   | .struct fs, xs, ys => match ti.eqok with | true => eqFs fs xs ys (eqTy T n) | false => none
   | _, _, _ => none
  | none => none
where eqFs (fs : List (TypeId × Nat)) (xs ys : List D) (rec : TypeId → List D → List D → Option Bool) : Option Bool :=
 match fs with
 | [] => some true
 | (t, off) :: r =>
  match T t with
  | some ti =>
   if off + ti.size ≤ xs.length ∧ off + ti.size ≤ ys.length then
    match rec t ((xs.drop off).take ti.size) ((ys.drop off).take ti.size), eqFs r xs ys rec with
    | some a, some b => some (a && b)
    | _, _ => none
   else none
  | none => none
def intBin (op : BinOp) (k : IntKind) (a b : Int) : Option Value :=
 match op with
 | .add => some (.int k (k.wrap (a + b)))
 | .sub => some (.int k (k.wrap (a - b)))
 | .mul => some (.int k (k.wrap (a * b)))
 | .eql => some (.bool (a == b))
 | .neq => some (.bool (a != b))
 | .lss => some (.bool (decide (a < b)))
 | .leq => some (.bool (decide (a ≤ b)))
 | .gtr => some (.bool (decide (a > b)))
 | .geq => some (.bool (decide (a ≥ b)))
 | .and => some (.int k (k.wrap (BitVec.ofInt k.bits a &&& BitVec.ofInt k.bits b).toNat))
 | .or => some (.int k (k.wrap (BitVec.ofInt k.bits a ||| BitVec.ofInt k.bits b).toNat))
 | .xor => some (.int k (k.wrap (BitVec.ofInt k.bits a ^^^ BitVec.ofInt k.bits b).toNat))
 | .andNot => some (.int k (k.wrap (BitVec.ofInt k.bits a &&& ~~~ BitVec.ofInt k.bits b).toNat))
 | _ => none
def binV (T : Tab) (op : BinOp) (t : TypeId) (x y : V) : Option V :=
 match x, y with
 | .d (.lit (.int k a)), .d (.lit (.int k' b)) => if k = k' then (match intBin op k a b with | some v => some (.d (.lit v)) | none => none) else none
 | .d (.lit (.bool a)), .d (.lit (.bool b)) =>
  match T t with
  | some ti => match ti.td, op with
   | .bool, .eql => some (.d (.lit (.bool (a == b))))
   | .bool, .neq => some (.d (.lit (.bool (!(a == b)))))
   | _, _ => none
  | none => none
 | .d (.agg xs), .d (.agg ys) =>
  match T t with
  | some ti => match ti.isAgg && ti.eqok, op with
   | true, .eql => match eqTy T 20 t xs ys with | some b => some (.d (.lit (.bool b))) | none => none
   | true, .neq => match eqTy T 20 t xs ys with | some b => some (.d (.lit (.bool (!b)))) | none => none
   | _, _ => none
  | none => none
 | _, _ => none
def lenV : V → Option Nat
 | .d (.list _ l) => some l.length
 | .d (.empt _) => some 0
 | .d (.lit (.slice _ n _)) => some n
 | .osl _ n => some n
 | _ => none
def foldInt (f : Int → Int → Int) (k : IntKind) : Int → List V → Option Int
 | a, [] => some a
 | a, .d (.lit (.int _ b)) :: r => foldInt f k (f a b) r
 | _, _ => none
def minI (a b : Int) : Int := if b < a then b else a
def maxI (a b : Int) : Int := if b > a then b else a
def builtinV (T : Tab) (b : Builtin) (argTypes : Array TypeId) (args : List V) : Option V :=
 match b with
 | .len =>
  match argTypes.toList, args with
  | [t], [x] => match T t with
   | some ti => match ti.td, x with
    | .slice _, x => match lenV x with | some n => some (.d (.lit (.int .i64 n))) | none => none
    | .str, .d (.lit (.string s)) => some (.d (.lit (.int .i64 s.size)))
    | _, _ => none
   | none => none
  | _, _ => none
 | .min => match args with | .d (.lit (.int k a)) :: r => (match foldInt minI k a r with | some n => some (.d (.lit (.int k n))) | none => none) | _ => none
 | .max => match args with | .d (.lit (.int k a)) :: r => (match foldInt maxI k a r with | some n => some (.d (.lit (.int k n))) | none => none) | _ => none
 | _ => none
def pureOp (T : Tab) (op : Op) (r : Operand → V) : Option V :=
 match op with
 | .move x => (r x).force
 | .assign x => (r x).force
 | .pick c a b => match r c with | .d (.lit (.bool t)) => (match t with | true => (r a).force | false => (r b).force) | _ => none
 | .build t parts => buildV T t (parts.toList.map fun p => (p.1, r p.2))
 | .nilCheck x => match r x with
  | .d (.ptr cs) => some (.d (.ptr cs))
  | .own k o => some (.own k o)
  | .optr k n i o => some (.optr k n i o)
  | .d (.fn (.func g) a b) => some (.d (.fn (.func g) a b))
  | _ => none
 | .binOp op t x y _ => binV T op t (r x) (r y)
 | .unOp op _ x => match op, r x with
  | .not, .d (.lit (.bool b)) => some (.d (.lit (.bool (!b))))
  | .neg, .d (.lit (.int k n)) => some (.d (.lit (.int k (k.wrap (0 - n)))))
  | _, _ => none
 | .convert s t x => match T s, T t, r x with
  | some _, some ti, .d (.lit (.int _ n)) => match ti.td with | .int k => some (.d (.lit (.int k (k.wrap n)))) | _ => none
  | _, _, _ => none
 | .makeInterface t x => match T t, r x with
  | some ti, .d y => match ti.td with | .iface => none | _ => some (.d (.iface t y))
  | _, _ => none
 | .makeFunc f first caps => match allD (first.toList.map r), allD (caps.toList.map r) with
  | some a, some b => some (.d (.fn f a b))
  | _, _ => some (.fn f (first.toList.map r) (caps.toList.map r))
 | .field t x f => match T t with
  | some ti => match ti.td with
   | .struct fs => match fs[f]? with
    | some (ft, off) => match T ft with
     | some fi => match r x with
      | .d (.agg cs) => match partD fi cs off with | some y => some (.d y) | none => none
      | .agg cs => partV fi cs off
      | _ => none
     | none => none
    | none => none
   | _ => none
  | none => none
 | .fieldAddr t x f => match T t with
  | some ti => match ti.td with
   | .struct fs => match fs[f]? with
    | some (ft, off) => match T ft with
     | some fi => if fi.size = 0 then none else match r x with
      | .d (.ptr cs) => some (.d (.ptr (cs.drop off)))
      | .own k o => some (.own k (o + off))
      | .optr k n i o => some (.optr k n i (o + off))
      | _ => none
     | none => none
    | none => none
   | _ => none
  | none => none
 | .load t x => match T t, r x with
  | some ti, .d (.ptr cs) => match partD ti cs 0 with | some y => some (.d y) | none => none
  | _, _ => none
 | .extract x i => match r x with
  | .d (.tuple ds) => match ds[i]? with | some y => some (.d y) | none => none
  | .tuple vs => vs[i]?
  | _ => none
 | .call c => match c.callee with
  | .builtin b => builtinV T b c.argTypes (c.args.toList.map r)
  | _ => none
 | _ => none
def storeV0 (ti : TI) (cs : List V) (off : Nat) (v : V) : Option (List V) :=
 if v.cells.length = ti.size ∧ off + ti.size ≤ cs.length ∧ v.whole = true then some (putAt cs off v.cells) else none
def storeV (ti : TI) (cs : List V) (off : Nat) (v : V) : Option (List V) :=
 match cellsF v, v.whole with
 | some new, true => match Nat.beq new.length ti.size with | true => putL cs off new | false => none
 | _, _ => none
theorem storeV_old {ti : TI} {cs out : List V} {off : Nat} {v : V} (h : storeV ti cs off v = some out) : storeV0 ti cs off v = some out := by
 unfold storeV at h
 rw [cellsF_eq] at h
 unfold storeV0
 split at h
 ·rename_i new hn hw
  simp at hn; subst hn
  split at h
  ·rename_i hb
   have hb := Nat.eq_of_beq_eq_true hb
   obtain ⟨h1, h2⟩ := putL_some h
   rw [if_pos ⟨hb, by omega, hw⟩, h2]
   rfl
  ·simp at h
 ·simp at h
def readOp (T : Tab) (op : Op) (r : Operand → V) (σ : Sig) : Option V :=
 match op with
 | .load t x => match T t, r x with
  | some ti, .own k off => match σ[k]? with
   | some (.cells cs) => partV ti cs off
   | _ => none
  | _, _ => none
 | _ => none
def allocOp (T : Tab) (op : Op) (r : Operand → V) (n : Nat) : Option (V × Obj) :=
 match op with
 | .alloc t => match T t with | some ti => (match dcells ti.zero.cells with | some cs => some (.own n 0, .cells cs) | none => none) | none => none
 | .box t x => match T t, cellsF (r x), (r x).whole with | some ti, some cs, true => (match Nat.beq cs.length ti.size with | true => some (.own n 0, .cells cs) | false => none) | _, _, _ => none
 | _ => none
def writeOp (T : Tab) (op : Op) (r : Operand → V) (σ : Sig) : Option Sig :=
 match op with
 | .store t a x => match T t, r a with
  | some ti, .own k off => match σ[k]? with
   | some (.cells cs) => match storeV ti cs off (r x) with | some cs' => some (σ.set k (.cells cs')) | none => none
   | _ => none
  | _, _ => none
 | _ => none
end Go.VM
namespace Go.VM
section
variable {M : Mem} {σ : Sig} {η : Nat → Value}
theorem relVC_iff : ∀ {l : List V} {vs : List Value}, RelVC M σ η l vs ↔ l.length = vs.length ∧ ∀ (i : Nat) (d : V) (v : Value), l[i]? = some d → vs[i]? = some v → v.oneCell' = true ∧ RelV M σ η d v
  | [], vs => by
    simp only [RelVC, List.length_nil]
    exact ⟨fun h => by subst h; simp, fun h => List.eq_nil_of_length_eq_zero h.1.symm⟩
  | d :: ds, vs => by
    simp only [RelVC]
    constructor
    · rintro ⟨v, r, rfl, h0, h1, h2⟩
      obtain ⟨h3, h4⟩ := relVC_iff.1 h2
      refine ⟨by simp [h3], fun i => ?_⟩
      cases i with
      | zero => rintro d' v' hd hv; cases hd; cases hv; exact ⟨h0, h1⟩
      | succ i => intro d' v' hd hv; exact h4 i d' v' (by simpa using hd) (by simpa using hv)
    · rintro ⟨h1, h2⟩
      cases vs with
      | nil => simp at h1
      | cons v r => exact ⟨v, r, rfl, (h2 0 d v rfl rfl).1, (h2 0 d v rfl rfl).2, relVC_iff.2 ⟨by simpa using h1, fun i d' v' hd hv => h2 (i + 1) d' v' (by simpa using hd) (by simpa using hv)⟩⟩
theorem relVL_iff : ∀ {l : List V} {vs : List Value}, RelVL M σ η l vs ↔ l.length = vs.length ∧ ∀ (i : Nat) (d : V) (v : Value), l[i]? = some d → vs[i]? = some v → RelV M σ η d v
  | [], vs => by
    simp only [RelVL, List.length_nil]
    exact ⟨fun h => by subst h; simp, fun h => List.eq_nil_of_length_eq_zero h.1.symm⟩
  | d :: ds, vs => by
    simp only [RelVL]
    constructor
    · rintro ⟨v, r, rfl, h1, h2⟩
      obtain ⟨h3, h4⟩ := relVL_iff.1 h2
      refine ⟨by simp [h3], fun i => ?_⟩
      cases i with
      | zero => rintro d' v' hd hv; cases hd; cases hv; exact h1
      | succ i => intro d' v' hd hv; exact h4 i d' v' (by simpa using hd) (by simpa using hv)
    · rintro ⟨h1, h2⟩
      cases vs with
      | nil => simp at h1
      | cons v r => exact ⟨v, r, rfl, h2 0 d v rfl rfl, relVL_iff.2 ⟨by simpa using h1, fun i d' v' hd hv => h2 (i + 1) d' v' (by simpa using hd) (by simpa using hv)⟩⟩
theorem relVC_append {a b : List V} {x y : List Value} (h1 : RelVC M σ η a x) (h2 : RelVC M σ η b y) : RelVC M σ η (a ++ b) (x ++ y) := by
  induction a generalizing x with
  | nil => simp only [RelVC] at h1; subst h1; simpa using h2
  | cons u us ih => simp only [RelVC] at h1; obtain ⟨v, r, rfl, h0, h3, h4⟩ := h1; exact ⟨v, r ++ y, rfl, h0, h3, ih h4⟩
theorem relVC_take {a : List V} {x : List Value} (h : RelVC M σ η a x) (n : Nat) : RelVC M σ η (a.take n) (x.take n) := by
  induction a generalizing x n with
  | nil => simp only [RelVC] at h; subst h; simp [RelVC]
  | cons u us ih =>
    cases n with
    | zero => simp [RelVC]
    | succ n => simp only [RelVC] at h; obtain ⟨v, r, rfl, h0, h3, h4⟩ := h; exact ⟨v, r.take n, rfl, h0, h3, ih h4 n⟩
theorem relVC_drop {a : List V} {x : List Value} (h : RelVC M σ η a x) (n : Nat) : RelVC M σ η (a.drop n) (x.drop n) := by
  induction a generalizing x n with
  | nil => simp only [RelVC] at h; subst h; simp [RelVC]
  | cons u us ih =>
    cases n with
    | zero => simpa using h
    | succ n => simp only [RelVC] at h; obtain ⟨v, r, rfl, h0, h3, h4⟩ := h; exact ih h4 n
theorem relVC_length {a : List V} {x : List Value} (h : RelVC M σ η a x) : a.length = x.length := (relVC_iff.1 h).1
theorem relVC_one {a : List V} {x : List Value} (h : RelVC M σ η a x) : ∀ v ∈ x, v.oneCell' = true := by
  induction a generalizing x with
  | nil => simp only [RelVC] at h; subst h; simp
  | cons u us ih => simp only [RelVC] at h; obtain ⟨v, r, rfl, h0, h3, h4⟩ := h; intro v' hv; cases hv with
    | head => exact h0
    | tail _ h => exact ih h4 v' h
theorem relVC_putAt {a b : List V} {x y : List Value} (h1 : RelVC M σ η a x) (off : Nat) (h2 : RelVC M σ η b y) : RelVC M σ η (putAt a off b) (x.take off ++ y ++ x.drop (off + y.length)) := by
  unfold putAt
  rw [relVC_length h2]
  exact relVC_append (relVC_append (relVC_take h1 off) h2) (relVC_drop h1 _)
theorem relVC_get {a : List V} {x : List Value} (h : RelVC M σ η a x) {i : Nat} {u : V} (hu : a[i]? = some u) : ∃ v, x[i]? = some v ∧ v.oneCell' = true ∧ RelV M σ η u v := by
  obtain ⟨hl, hh⟩ := relVC_iff.1 h
  have hi : i < a.length := (List.getElem?_eq_some_iff.1 hu).1
  refine ⟨x[i]'(by omega), List.getElem?_eq_getElem (by omega), hh i u _ hu (List.getElem?_eq_getElem (by omega))⟩
theorem relVC_d {l : List D} {vs : List Value} (h : RelC M l vs) : RelVC M σ η (l.map .d) vs := by
  induction l generalizing vs with
  | nil => simpa [RelC, RelVC] using h
  | cons d ds ih => simp only [RelC] at h; obtain ⟨v, r, rfl, h0, h1, h2⟩ := h; exact ⟨v, r, rfl, one_of_rel h1 h0, by simpa only [RelV] using h1, ih h2⟩
theorem relVL_d {l : List D} {vs : List Value} : RelVL M σ η (l.map .d) vs ↔ RelL M l vs := by
  induction l generalizing vs with
  | nil => simp [RelL, RelVL]
  | cons d ds ih => simp only [RelL, RelVL, List.map_cons, RelV, ih]
theorem allD_eq : ∀ {l : List V} {ds : List D}, allD l = some ds → l = ds.map .d
  | [], _, h => by simp [allD] at h; subst h; rfl
  | u :: r, ds, h => by
    cases u <;> simp only [allD] at h <;> try (exact absurd h (by simp))
    split at h
    · rename_i l hl
      simp at h; subst h
      simp [allD_eq hl]
    · simp at h
theorem one_of_cell {d : D} {v : Value} (h : Rel M d v) (h1 : v.oneCell' = true) : d.one = true := by
  cases d with
  | lit u => simp only [Rel] at h; subst h; exact h1
  | agg cs => simp only [Rel] at h; obtain ⟨vs, rfl, _⟩ := h; simp [Value.oneCell'] at h1
  | tuple ds => simp only [Rel] at h; obtain ⟨vs, rfl, _⟩ := h; simp [Value.oneCell'] at h1
  | _ => rfl
theorem relC_of_VC {l : List D} {vs : List Value} (h : RelVC M σ η (l.map .d) vs) : RelC M l vs := by
  induction l generalizing vs with
  | nil => simpa [RelC, RelVC] using h
  | cons d ds ih => simp only [RelVC, List.map_cons, RelV] at h; obtain ⟨v, r, rfl, h0, h2, h3⟩ := h; exact ⟨v, r, rfl, one_of_cell h2 h0, h2, ih h3⟩
theorem relV_mkAgg {l : List V} {vs : List Value} (h : RelVC M σ η l vs) : RelV M σ η (mkAgg l) (.agg vs.toArray) := by
  unfold mkAgg
  split
  · rename_i ds hd
    rw [allD_eq hd] at h
    simp only [RelV, Rel]
    exact ⟨vs, rfl, relC_of_VC h⟩
  · simp only [RelV]
    exact ⟨vs, rfl, h⟩
theorem relV_cells {u : V} {v : Value} (h : RelV M σ η u v) (hw : u.whole = true) : RelVC M σ η u.cells v.cells.toList := by
  cases u with
  | d x =>
    simp only [V.cells]
    simp only [RelV] at h
    refine relVC_d (rel_cells h (fun ds e => by subst e; simp [V.whole] at hw) (fun u e => by subst e; simpa [V.whole] using hw))
  | any => simp [V.whole] at hw
  | tuple => simp [V.whole] at hw
  | agg cs => simp only [RelV] at h; obtain ⟨vs, rfl, h⟩ := h; simpa [V.cells, Value.cells] using h
  | own k o => have h' := h; simp only [RelV] at h; obtain ⟨_, b, _, rfl⟩ := h; simp only [V.cells, Value.cells, RelVC]; exact ⟨_, [], rfl, rfl, h', rfl⟩
  | omap k => have h1 : v.oneCell' = true := by simp only [RelV] at h; obtain ⟨_, r, _, rfl⟩ := h; rfl
              have hc : v.cells.toList = [v] := by cases v <;> simp [Value.oneCell'] at h1 <;> rfl
              rw [hc]; simp only [V.cells, RelVC]; exact ⟨_, [], rfl, h1, h, rfl⟩
  | osl k n => have h1 : v.oneCell' = true := by simp only [RelV] at h; obtain ⟨_, ⟨b, c, rfl⟩, _⟩ := h; rfl
               have hc : v.cells.toList = [v] := by cases v <;> simp [Value.oneCell'] at h1 <;> rfl
               rw [hc]; simp only [V.cells, RelVC]; exact ⟨_, [], rfl, h1, h, rfl⟩
  | optr k n i o => have h1 : v.oneCell' = true := by simp only [RelV] at h; obtain ⟨_, ⟨b, c, rfl⟩, _⟩ := h; rfl
                    have hc : v.cells.toList = [v] := by cases v <;> simp [Value.oneCell'] at h1 <;> rfl
                    rw [hc]; simp only [V.cells, RelVC]; exact ⟨_, [], rfl, h1, h, rfl⟩
  | otail k n i => have h1 : v.oneCell' = true := by simp only [RelV] at h; obtain ⟨_, ⟨b, c, rfl⟩, _⟩ := h; rfl
                   have hc : v.cells.toList = [v] := by cases v <;> simp [Value.oneCell'] at h1 <;> rfl
                   rw [hc]; simp only [V.cells, RelVC]; exact ⟨_, [], rfl, h1, h, rfl⟩
  | fn f a b => have h' := h; simp only [RelV] at h; obtain ⟨fs, cs, rfl, _⟩ := h; simp only [V.cells, Value.cells, RelVC]; exact ⟨_, [], rfl, rfl, h', rfl⟩
theorem fold_set (vs : List Value) : ∀ (cs : Array Value) (off k : Nat), off + k + vs.length ≤ cs.size →
    ((vs.zipIdx k).foldl (fun cs (x : Value × Nat) => cs.setIfInBounds (off + x.2) x.1) cs).toList = cs.toList.take (off + k) ++ vs ++ cs.toList.drop (off + k + vs.length) := by
  induction vs with
  | nil => intro cs off k h; simp
  | cons v vs ih =>
    intro cs off k h
    simp only [List.length_cons] at h
    simp only [List.zipIdx_cons, List.foldl_cons]
    rw [ih _ off (k + 1) (by simp; omega)]
    simp only [Array.toList_setIfInBounds, List.length_cons]
    rw [show off + (k + 1) = off + k + 1 by omega, List.drop_set_of_lt (by omega)]
    rw [List.take_add_one, List.take_set_of_le (by omega)]
    simp [List.getElem?_set]
    rw [if_pos (by omega)]
    simp [show off + k + 1 + vs.length = off + k + (vs.length + 1) by omega]
variable {P : Program} {T : Tab}
theorem run_fillV {place : Nat → Option (Nat × Nat)} {place' : Nat → Option (Nat × Nat)} (hp : ∀ i x, place i = some x → place' i = some x) :
    ∀ {parts : List (Nat × V)} {ps : List (Nat × Value)} {cs out : List V} {vs : List Value}, RelVC M σ η cs vs → fillV0 place cs parts = some out → parts.all (·.2.whole) = true →
      parts.length = ps.length → (∀ (i : Nat) a b, parts[i]? = some a → ps[i]? = some b → a.1 = b.1 ∧ RelV M σ η a.2 b.2) →
      ∃ ws : List Value, Instr.fill place' vs.toArray ps = some ws.toArray ∧ RelVC M σ η out ws
  | [], ps, cs, out, vs, h, hf, _, hl, _ => by
    have : ps = [] := List.eq_nil_of_length_eq_zero (by simpa using hl.symm)
    subst this
    simp [fillV0] at hf; subst hf
    exact ⟨vs, by simp [Instr.fill], h⟩
  | (i, u) :: parts, ps, cs, out, vs, h, hf, hw, hl, hr => by
    cases ps with
    | nil => simp at hl
    | cons q ps =>
      obtain ⟨j, v⟩ := q
      obtain ⟨hij, hv⟩ := hr 0 (i, u) (j, v) rfl rfl
      simp only at hij hv
      subst hij
      simp only [List.all_cons, Bool.and_eq_true] at hw
      simp only [fillV0] at hf
      split at hf
      · rename_i off size hpl
        split at hf
        · rename_i hc
          obtain ⟨hc1, hc2⟩ := hc
          have hcells := relV_cells hv hw.1
          have hlen := relVC_length hcells
          have hcs := relVC_length h
          have h2 := relVC_putAt h off hcells
          obtain ⟨ws, e, hout⟩ := run_fillV hp h2 hf hw.2 (by simpa using hl) (fun k a b ha hb => hr (k + 1) a b (by simpa using ha) (by simpa using hb))
          refine ⟨ws, ?_, hout⟩
          simp only [Instr.fill, hp _ _ hpl]
          have e1 : v.cells.size = size := by rw [← hc1, hlen]; simp
          rw [if_neg (by simp [e1]; omega), ← e]
          congr 1
          apply Array.ext'
          have := fold_set v.cells.toList vs.toArray off 0 (by simp; simp at hlen; omega)
          simp only [Nat.add_zero] at this
          rw [← Array.toList_zipIdx] at this
          rw [← Array.foldl_toList]
          simpa using this
        · simp at hf
      · simp at hf
end
end Go.VM
namespace Go.VM
section
variable {M : Mem} {σ : Sig} {η : Nat → Value} {P : Program} {T : Tab}
theorem TabOk.under (hT : TabOk P T) {t : TypeId} {ti : TI} (h : T t = some ti) : ∃ d, P.underlying t = some d ∧ TDOk ti.td d := (hT t ti h).desc
theorem TabOk.struct (hT : TabOk P T) {t : TypeId} {ti : TI} {fs : List (TypeId × Nat)} (h : T t = some ti) (hd : ti.td = .struct fs) :
  ∃ fields, P.underlying t = some (.struct fields) ∧ fs = fields.toList.map (fun f => (f.type, f.offset)) ∧ (∀ f ∈ fields.toList, f.name ≠ "_") := by
 obtain ⟨d, hu, hk⟩ := hT.under h
 rw [hd] at hk
 cases d <;> simp only [TDOk] at hk
 exact ⟨_, hu, hk.1, hk.2⟩
theorem run_isAgg (hT : TabOk P T) {t : TypeId} {ti : TI} (h : T t = some ti) (w : World) : (isAgg t).run P w = .ok ti.isAgg w := by
 obtain ⟨d, hu, hk⟩ := hT.under h
 obtain ⟨td, s, by_, z, e⟩ := ti
 cases td <;> cases d <;> simp only [TDOk] at hk <;> simp [isAgg, run_underlying hu, TI.isAgg]
theorem run_sizeOf' (hT : TabOk P T) {t : TypeId} {ti : TI} (h : T t = some ti) (w : World) : (sizeOf t).run P w = .ok ti.size w := by
 obtain ⟨i, hi, hs, _⟩ := (hT t ti h).info
 simp [sizeOf, typeInfo, hi, hs]
theorem run_zeroValue' (hT : TabOk P T) {t : TypeId} {ti : TI} (h : T t = some ti) : ∃ z, (∀ w, (zeroValue t).run P w = .ok z w) ∧ (∀ M, RelC M ti.zero.cells z.cells.toList) ∧ z.cells.size = ti.size := by
 obtain ⟨i, hi, hs, _, z, hz, hr, hzs⟩ := (hT t ti h).info
 exact ⟨z, fun w => by simp [zeroValue, typeInfo, hi, hz], hr, hzs⟩
theorem run_partD (hT : TabOk P T) {t : TypeId} {ti : TI} (h : T t = some ti) {cs : List D} {vs : List Value} (hr : RelC M cs vs) {off : Nat} {y : D} (hy : partD ti cs off = some y) (w : World) :
  ∃ v, (part t vs.toArray off).run P w = .ok v w ∧ Rel M y v := by
 have hy := partD_old hy
 unfold partD0 at hy
 have hl := (relC_iff.1 hr).1
 split at hy
 ·rename_i ha
  split at hy
  ·simp at hy; subst hy
   refine ⟨.agg ((vs.drop off).take ti.size).toArray, ?_, ?_⟩
   ·simp [part, run_isAgg hT h, ha, run_sizeOf' hT h]
   ·simp only [Rel]
    refine ⟨_, rfl, relC_iff.2 ⟨by simp [hl], fun i d v hd hv => ?_⟩⟩
    simp only [List.getElem?_take, List.getElem?_drop] at hd hv
    split at hd
    ·rename_i hi; rw [if_pos hi] at hv; exact (relC_iff.1 hr).2 _ _ _ hd hv
    ·simp at hd
  ·simp at hy
 ·rename_i ha
  have hoff : off < cs.length := (List.getElem?_eq_some_iff.1 hy).1
  refine ⟨vs[off]'(by omega), ?_, ((relC_iff.1 hr).2 off y _ hy (List.getElem?_eq_getElem (by omega))).2⟩
  simp [part, run_isAgg hT h, ha, List.getElem?_eq_getElem (show off < vs.length by omega)]
theorem run_partV (hT : TabOk P T) {t : TypeId} {ti : TI} (h : T t = some ti) {cs : List V} {vs : List Value} (hr : RelVC M σ η cs vs) {off : Nat} {y : V} (hy : partV ti cs off = some y) (w : World) :
  ∃ v, (part t vs.toArray off).run P w = .ok v w ∧ RelV M σ η y v := by
 have hy := partV_old hy
 unfold partV0 at hy
 have hl := relVC_length hr
 split at hy
 ·rename_i ha
  split at hy
  ·simp at hy; subst hy
   refine ⟨.agg ((vs.drop off).take ti.size).toArray, ?_, relV_mkAgg (relVC_take (relVC_drop hr off) _)⟩
   simp [part, run_isAgg hT h, ha, run_sizeOf' hT h]
  ·simp at hy
 ·rename_i ha
  obtain ⟨v, hv, _, hrel⟩ := relVC_get hr hy
  refine ⟨v, ?_, hrel⟩
  simp [part, run_isAgg hT h, ha, hv]
theorem run_loadVar_cells (hT : TabOk P T) {t : TypeId} {ti : TI} (h : T t = some ti) (a : Addr) (vs : List Value) (w : World) (hc : ∀ (j : Nat) v, vs[j]? = some v → w.cell? (a.add j) = some v) (hl : vs.length = ti.size)
  (h1 : ti.isAgg = false → vs ≠ []) : (loadVar t a).run P w = .ok (match ti.isAgg with | true => .agg vs.toArray | false => vs.headD undef) w := by
 unfold loadVar
 simp only [Sem.run_bind, run_isAgg hT h, Result.andThen_ok]
 cases ha : ti.isAgg with
 | true => simp [run_sizeOf' hT h, ← hl, run_loadCells_list w a vs hc]
 | false =>
  cases vs with
  | nil => exact absurd rfl (h1 ha)
  | cons v r =>
   have := hc 0 v rfl
   have h0 : a.add 0 = a := by simp [Addr.add]
   rw [h0] at this
   simp [this]
theorem addr_add (b o j : Nat) : (⟨b, o, none⟩ : Addr).add j = ⟨b, o + j, none⟩ := by
 unfold Addr.add
 split
 ·rename_i h; simp [h]
 ·rfl
theorem rel_list_len {es : Nat} {l : List D} {v : Value} (h : Rel M (.list es l) v) : ∃ base cap, v = .slice base l.length cap := by
 simp only [Rel] at h; obtain ⟨b, c, rfl, _⟩ := h; exact ⟨b, c, rfl⟩
theorem run_buildV (hT : TabOk P T) {t : TypeId} {parts : List (Nat × V)} {ps : List (Nat × Value)} {v : V} (h : buildV T t parts = some v) (hl : parts.length = ps.length)
  (hr : ∀ (i : Nat) a b, parts[i]? = some a → ps[i]? = some b → a.1 = b.1 ∧ RelV M σ η a.2 b.2) (w : World) :
  ∃ x, (Instr.build t ps.toArray).run P w = .ok x w ∧ RelV M σ η v x := by
 have h := buildV_old h
 unfold buildV0 at h
 split at h
 ·rename_i ti hti
  split at h
  ·rename_i fs hfs
   split at h
   ·rename_i hw
    split at h
    ·rename_i cs hcs
     simp at h; subst h
     obtain ⟨fields, hu, hf, hn⟩ := hT.struct hti hfs
     obtain ⟨pl, hpl⟩ := (hT t ti hti).places fs hfs fields hu
     obtain ⟨i, hi, hs, _, z, hz, hzr, hzs⟩ := (hT t ti hti).info
     obtain ⟨ws, hfill, hrel⟩ := run_fillV (M := M) (σ := σ) (η := η) (place := structPlace T fs) (place' := (pl.toArray[·]?)) (fun k x hx => by
      unfold structPlace at hx
      split at hx
      ·rename_i ft off hft
       split at hx
       ·rename_i fi hfi
        simp at hx; subst hx
        rw [hf] at hft
        simp only [List.getElem?_map, Option.map_eq_some_iff] at hft
        obtain ⟨f, hfk, he⟩ := hft
        simp at he
        obtain ⟨b, hb, hb2⟩ := Lib.mapM_at hpl k f hfk
        obtain ⟨i', hi', hs', _⟩ := (hT ft fi hfi).info
        rw [he.1, hi'] at hb2
        simp at hb2
        simp only [List.getElem?_toArray]
        rw [hb, ← hb2, hs', he.2]
       ·simp at hx
      ·simp at hx) (relVC_d (hzr M)) hcs hw hl hr
     refine ⟨.agg ws.toArray, ?_, relV_mkAgg hrel⟩
     refine run_build w t ps.toArray ws.toArray ?_
     simp [Program.built, hi, hu, hz, hpl]
     simpa using hfill
    ·simp at h
   ·simp at h
  ·simp at h
 ·simp at h
end
end Go.VM
namespace Go.VM
section
variable {M : Mem} {σ : Sig} {η : Nat → Value} {P : Program} {T : Tab}
theorem relC_range {xs : List D} {vs : List Value} (h : RelC M xs vs) (a b : Nat) : RelC M ((xs.drop a).take b) ((vs.drop a).take b) := by
 refine relC_iff.2 ⟨by simp [(relC_iff.1 h).1], fun i d v hd hv => ?_⟩
 simp only [List.getElem?_take, List.getElem?_drop] at hd hv
 split at hd
 ·rename_i hi; rw [if_pos hi] at hv; exact (relC_iff.1 h).2 _ _ _ hd hv
 ·simp at hd
theorem run_partC (hT : TabOk P T) {t : TypeId} {ti : TI} (h : T t = some ti) {vs : List Value} {off : Nat} (hl : off + ti.size ≤ vs.length) (w : World) (h1 : ti.isAgg = false → ti.size = 1) :
  (part t vs.toArray off).run P w = .ok (match ti.isAgg with | true => .agg ((vs.drop off).take ti.size).toArray | false => vs.getD off undef) w := by
 cases ha : ti.isAgg with
 | true => simp [part, run_isAgg hT h, ha, run_sizeOf' hT h]
 | false =>
  have := h1 ha
  have hlt : off < vs.length := by omega
  simp [part, run_isAgg hT h, ha, List.getD, List.getElem?_eq_getElem hlt]
def ofCells (ti : TI) (vs : List Value) : Value := match ti.isAgg with | true => .agg vs.toArray | false => vs.headD undef
def Sized (T : Tab) : Prop := ∀ t ti, T t = some ti → ti.isAgg = false → ti.size = 1
theorem run_eqTy (hT : TabOk P T) (hS : Sized T) : ∀ (n k : Nat) {t : TypeId} {ti : TI} (h : T t = some ti) {xs ys : List D} {vs us : List Value} {b : Bool}, RelC M xs vs → RelC M ys us → n ≤ k → eqTy T n t xs ys = some b →
  ∀ w, (Op.equalIn k t (ofCells ti vs) (ofCells ti us)).run P w = .ok b w
 | 0, _, _, _, _, _, _, _, _, _, _, _, _, h, _ => by simp [eqTy] at h
 | n + 1, 0, _, _, _, _, _, _, _, _, _, _, hk, _, _ => absurd hk (by omega)
 | n + 1, k + 1, t, ti, h, xs, ys, vs, us, b, hx, hy, hk, he, w => by
  unfold eqTy at he
  rw [h] at he
  simp only at he
  obtain ⟨d, hu, hd⟩ := hT.under h
  split at he
  ·rename_i k0 k1 a k2 b' htd
   split at he
   ·rename_i hkk
    simp at he
    simp only [RelC, Rel] at hx hy
    obtain ⟨_, _, rfl, _, rfl, rfl⟩ := hx
    obtain ⟨_, _, rfl, _, rfl, rfl⟩ := hy
    rw [htd] at hd
    cases d <;> simp only [TDOk] at hd
    subst hkk
    simp only [ofCells, TI.isAgg, htd, List.headD_cons]
    rw [run_equalIn_int w k t k1 _ a b' hu, he]
   ·simp at he
  ·rename_i a b' htd
   simp at he
   simp only [RelC, Rel] at hx hy
   obtain ⟨_, _, rfl, _, rfl, rfl⟩ := hx
   obtain ⟨_, _, rfl, _, rfl, rfl⟩ := hy
   rw [htd] at hd
   cases d <;> simp only [TDOk] at hd
   simp only [ofCells, TI.isAgg, htd, List.headD_cons]
   rw [run_equalIn_bool w k t a b' hu, he]
  ·rename_i a b' htd
   simp at he
   simp only [RelC, Rel] at hx hy
   obtain ⟨_, _, rfl, _, rfl, rfl⟩ := hx
   obtain ⟨_, _, rfl, _, rfl, rfl⟩ := hy
   rw [htd] at hd
   cases d <;> simp only [TDOk] at hd
   simp only [ofCells, TI.isAgg, htd, List.headD_cons]
   rw [run_equalIn_string w k t a b' hu, ← beq_toListBytes, he]
  ·rename_i fs xs' ys' htd
   split at he
   ·rename_i hok
    obtain ⟨fields, hu, hf, hn⟩ := hT.struct h htd
    have hst := ((hT t ti h).eq hok).2
    have hag : ti.isAgg = true := by simp [TI.isAgg, htd]
    have hfo : P.fieldsOf t = fields := by simp [Program.fieldsOf, hu]
    simp only [ofCells, hag]
    rw [run_equalIn_struct w k t _ _ (by rw [hfo]; exact hu) hst, hfo]
    generalize fields.toList = fl at hf hn
    clear hu hfo htd
    subst hf
    induction fl generalizing b w with
    | nil => simp [eqTy.eqFs] at he; subst he; simp [Op.eqFields]
    | cons f fl ih =>
     simp only [List.map_cons, eqTy.eqFs] at he
     split at he
     ·rename_i fi hfi
      split at he
      ·rename_i hsz
       obtain ⟨hs1, hs2⟩ := hsz
       split at he
       ·rename_i b1 b2 hb1 hb2
        simp at he; subst he
        have hlx := (relC_iff.1 hx).1
        have hly := (relC_iff.1 hy).1
        have e1 := run_partC (P := P) hT hfi (vs := vs) (off := f.offset) (by omega) w (hS _ _ hfi)
        have e2 := run_partC (P := P) hT hfi (vs := us) (off := f.offset) (by omega) w (hS _ _ hfi)
        have hA : ∀ l : List Value, f.offset + fi.size ≤ l.length → (match fi.isAgg with | true => Value.agg ((l.drop f.offset).take fi.size).toArray | false => l.getD f.offset undef) = ofCells fi ((l.drop f.offset).take fi.size) := by
         intro l hl
         unfold ofCells
         cases ha : fi.isAgg with
         | true => rfl
         | false =>
          have h1 := hS _ _ hfi ha
          have hlt : f.offset < l.length := by omega
          simp only [h1]
          rw [List.drop_eq_getElem_cons hlt]
          simp only [List.take_succ_cons, List.take_zero, List.headD_cons, List.getD, List.getElem?_eq_getElem hlt, Option.getD_some]
        rw [hA vs (by omega)] at e1
        rw [hA us (by omega)] at e2
        have e3 := run_eqTy hT hS n k hfi (relC_range hx f.offset fi.size) (relC_range hy f.offset fi.size) (by omega) hb1 w
        simp only [Op.eqFields]
        rw [if_pos (hn f (by simp))]
        simp only [Sem.run_bind, e1, e2, e3, Result.andThen_ok]
        have ih' := ih b2 w (fun f hf => hn f (by simp [hf])) hb2
        cases b1 <;> simp [ih']
       ·simp at he
      ·simp at he
     ·simp at he
   ·simp at he
  ·simp at he
theorem run_intBin {op : BinOp} {k : IntKind} {a b : Int} {v : Value} (h : intBin op k a b = some v) (t : TypeId) (w : World) : (binOp op t (.int k a) (.int k b)).run P w = .ok v w := by
 cases op <;> simp [intBin] at h <;> subst h <;> simp [binOp, Op.intArith, Op.intCmp, Op.intBits]
theorem run_foldInt {f : Int → Int → Int} {g : Value → Value → Sem Value} {k : IntKind} (hg : ∀ k' a b, g (.int k a) (.int k' b) = pure (.int k (f a b))) :
  ∀ {l : List V} {vs : List Value} {a n : Int}, RelVL M σ η l vs → foldInt f k a l = some n → ∀ w, (vs.foldlM g (.int k a)).run P w = .ok (.int k n) w
 | [], _, a, n, h, hf, w => by
  simp only [RelVL] at h; subst h
  simp [foldInt] at hf; subst hf; simp
 | u :: l, vs, a, n, h, hf, w => by
  simp only [RelVL] at h
  obtain ⟨v, r, rfl, hv, hr⟩ := h
  unfold foldInt at hf
  split at hf
  ·rename_i heq; simp at heq
  ·rename_i a' k' b r' heq
   obtain ⟨rfl, rfl⟩ := by simpa using heq
   simp only [RelV, Rel] at hv
   subst hv
   simp only [List.foldlM_cons, hg, pure_bind]
   exact run_foldInt hg hr hf w
  ·simp at hf
end
end Go.VM
namespace Go.VM
section
variable {M : Mem} {σ : Sig} {η : Nat → Value} {P : Program} {T : Tab}
theorem relVL_map {α : Type} (f : α → V) (g : α → Value) : ∀ (l : List α), (∀ x ∈ l, RelV M σ η (f x) (g x)) → RelVL M σ η (l.map f) (l.map g)
 | [], _ => by simp [RelVL]
 | x :: l, h => by simp only [List.map_cons, RelVL]; exact ⟨_, _, rfl, h x (by simp), relVL_map f g l (fun y hy => h y (by simp [hy]))⟩
theorem lenV_eq {x : V} {n : Nat} {v : Value} (h : RelV M σ η x v) (hn : lenV x = some n) :
  ∃ b c, v = .slice b n c := by
 cases x with
 | d y =>
  simp only [RelV] at h
  cases y <;> simp [lenV] at hn
  case lit u => cases u <;> simp at hn; subst hn; simp only [Rel] at h; exact ⟨_, _, h⟩
  case list es l => subst hn; exact rel_list_len h
  case empt c => subst hn; simp only [Rel] at h; obtain ⟨a, cap, rfl, _⟩ := h; exact ⟨_, _, rfl⟩
 | osl k m =>
  simp [lenV] at hn; subst hn
  simp only [RelV] at h
  exact h.2.1
 | _ => simp [lenV] at hn
theorem run_binV (hT : TabOk P T) (hS : Sized T) {op : BinOp} {t : TypeId} {x y v : V} {a b : Value} (h : binV T op t x y = some v) (ha : RelV M σ η x a) (hb : RelV M σ η y b) (cx cy : Operand) (w : World) :
  ∃ u, (do eqGuard op t cx cy a b; binOp op t a b : Sem Value).run P w = .ok u w ∧ RelV M σ η v u := by
 unfold binV at h
 split at h
 ·rename_i k1 i1 k2 i2
  simp only [RelV, Rel] at ha hb
  subst ha; subst hb
  split at h
  ·rename_i hk; subst hk
   split at h
   ·rename_i r hr
    simp at h; subst h
    refine ⟨r, ?_, by simp [RelV, Rel]⟩
    simp only [Sem.run_bind, run_intBin hr]
    have : (eqGuard op t cx cy (.int k1 i1) (.int k1 i2)).run P w = .ok () w := by unfold eqGuard; split <;> simp
    rw [this]; rfl
   ·simp at h
  ·simp at h
 ·rename_i b1 b2
  simp only [RelV, Rel] at ha hb
  subst ha; subst hb
  split at h
  ·rename_i ti hti
   have hg : (eqGuard op t cx cy (.bool b1) (.bool b2)).run P w = .ok () w := by unfold eqGuard; split <;> simp
   obtain ⟨d, hu, hd⟩ := hT.under hti
   split at h
   ·rename_i htd
    simp at h; subst h
    rw [htd] at hd
    cases d <;> simp only [TDOk] at hd
    refine ⟨.bool (b1 == b2), ?_, by simp [RelV, Rel]⟩
    simp only [Sem.run_bind, hg, Result.andThen_ok]
    exact run_eql_bool w t b1 b2 hu
   ·rename_i htd
    simp at h; subst h
    rw [htd] at hd
    cases d <;> simp only [TDOk] at hd
    refine ⟨.bool (!(b1 == b2)), ?_, by simp [RelV, Rel]⟩
    simp only [Sem.run_bind, hg, Result.andThen_ok]
    simp [binOp, Op.equal, Op.maxDepth, run_equalIn_bool w 9999 t b1 b2 hu]
   ·simp at h
  ·simp at h
 ·rename_i xs ys
  simp only [RelV, Rel] at ha hb
  obtain ⟨vs, rfl, hvs⟩ := ha
  obtain ⟨us, rfl, hus⟩ := hb
  split at h
  ·rename_i ti hti
   have hag : ∀ b, eqTy T 20 t xs ys = some b → ti.isAgg = true → ∀ w, (Op.equal t (.agg vs.toArray) (.agg us.toArray)).run P w = .ok b w := by
    intro b hb hagg w
    have := run_eqTy hT hS 20 10000 hti hvs hus (by omega) hb w
    simpa [ofCells, hagg, Op.equal, Op.maxDepth] using this
   split at h
   ·rename_i hok0
    obtain ⟨hagg, hok⟩ := Bool.and_eq_true_iff.1 hok0
    split at h
    ·rename_i b hb
     simp at h; subst h
     refine ⟨.bool b, ?_, by simp [RelV, Rel]⟩
     have hg : (eqGuard .eql t cx cy (.agg vs.toArray) (.agg us.toArray)).run P w = .ok () w := by
      simp [eqGuard, ((hT t ti hti).eq hok).1]
     simp only [Sem.run_bind, hg, Result.andThen_ok]
     simp [binOp, hag b hb hagg]
    ·simp at h
   ·rename_i hok0
    obtain ⟨hagg, hok⟩ := Bool.and_eq_true_iff.1 hok0
    split at h
    ·rename_i b hb
     simp at h; subst h
     refine ⟨.bool (!b), ?_, by simp [RelV, Rel]⟩
     have hg : (eqGuard .neq t cx cy (.agg vs.toArray) (.agg us.toArray)).run P w = .ok () w := by
      simp [eqGuard, ((hT t ti hti).eq hok).1]
     simp only [Sem.run_bind, hg, Result.andThen_ok]
     simp [binOp, hag b hb hagg]
    ·simp at h
   ·simp at h
  ·simp at h
 ·simp at h
theorem run_builtinV (hT : TabOk P T) {b : Builtin} {at_ : Array TypeId} {ty : TypeId} {cs : Array Bool} {us : List V} {vs : List Value} {v : V} (h : builtinV T b at_ us = some v) (hr : RelVL M σ η us vs) (w : World) :
  ∃ u, (builtin b at_ ty cs vs.toArray).run P w = .ok (.value u) w ∧ RelV M σ η v u := by
 unfold builtinV at h
 split at h
 ·split at h
  ·rename_i t x hat
   simp only [RelVL] at hr
   obtain ⟨u, _, rfl, hu, rfl⟩ := hr
   have hat' : at_ = #[t] := by rw [← Array.toArray_toList (xs := at_), hat]
   subst hat'
   split at h
   ·rename_i ti hti
    obtain ⟨d, hud, hd'⟩ := hT.under hti
    split at h
    ·rename_i e x' htd
     rw [htd] at hd'
     cases d <;> simp only [TDOk] at hd'
     split at h
     ·rename_i n hn
      simp at h; subst h
      obtain ⟨bb, c, rfl⟩ := lenV_eq hu hn
      refine ⟨.int .i64 n, ?_, by simp [RelV, Rel]⟩
      simp [builtin, Builtin.len_, run_underlying hud, goInt]
     ·simp at h
    ·rename_i s htd
     simp at h; subst h
     rw [htd] at hd'
     cases d <;> simp only [TDOk] at hd'
     simp only [RelV, Rel] at hu
     subst hu
     refine ⟨.int .i64 s.size, ?_, by simp [RelV, Rel]⟩
     simp [builtin, Builtin.len_, run_underlying hud, goInt]
    ·simp at h
   ·simp at h
  ·simp at h
 ·split at h
  ·rename_i k a r
   split at h
   ·rename_i n hn
    simp at h; subst h
    simp only [RelVL] at hr
    obtain ⟨u, vr, rfl, hu, hr⟩ := hr
    simp only [RelV, Rel] at hu; subst hu
    refine ⟨.int k n, ?_, by simp [RelV, Rel]⟩
    have := run_foldInt (P := P) (f := minI) (g := Builtin.min2) (k := k) (fun _ _ _ => rfl) hr hn w
    simp [builtin, Builtin.min_, this]
   ·simp at h
  ·simp at h
 ·split at h
  ·rename_i k a r
   split at h
   ·rename_i n hn
    simp at h; subst h
    simp only [RelVL] at hr
    obtain ⟨u, vr, rfl, hu, hr⟩ := hr
    simp only [RelV, Rel] at hu; subst hu
    refine ⟨.int k n, ?_, by simp [RelV, Rel]⟩
    have := run_foldInt (P := P) (f := maxI) (g := Builtin.max2) (k := k) (fun _ _ _ => rfl) hr hn w
    simp [builtin, Builtin.max_, this]
   ·simp at h
  ·simp at h
 ·simp at h
theorem run_pureOp (hT : TabOk P T) (hS : Sized T) {o : Oper} {r : Operand → V} {v : V} (h : pureOp T o.op r = some v) {ρ : Operand → Value} (hr : ∀ x ∈ o.op.operands, RelV M σ η (r x) (ρ x)) (w : World)
  (hM : ∀ b o v, M b o v → w.cell? ⟨b, o, none⟩ = some v) : ∃ x, (execOp ρ o).run P w = .ok (.value x) w ∧ RelV M σ η v x := by
 obtain ⟨dst, op, type, pos, after, guard⟩ := o
 simp only at h hr
 cases op <;> simp only [pureOp] at h <;> try (exfalso; revert h; simp; done)
 case move x => rw [V.force_eq h]; exact ⟨ρ x, rfl, hr x (by simp [Op.operands])⟩
 case assign x => rw [V.force_eq h]; exact ⟨ρ x, rfl, hr x (by simp [Op.operands])⟩
 case pick c a b =>
  split at h
  ·rename_i t hc
   have h1 := hr c (by simp [Op.operands])
   rw [hc] at h1
   simp only [RelV, Rel] at h1
   cases t with
   | true => rw [V.force_eq h]; exact ⟨ρ a, by simp [execOp, h1, asBool], hr a (by simp [Op.operands])⟩
   | false => rw [V.force_eq h]; exact ⟨ρ b, by simp [execOp, h1, asBool], hr b (by simp [Op.operands])⟩
  ·simp at h
 case build t parts =>
  have hx := run_buildV (M := M) (σ := σ) (η := η) hT (ps := (parts.toList.map fun p => (p.1, ρ p.2))) h (by simp) (fun i a b ha hb => by
   simp only [List.getElem?_map, Option.map_eq_some_iff] at ha hb
   obtain ⟨p, hp, rfl⟩ := ha
   obtain ⟨q, hq, rfl⟩ := hb
   rw [hp] at hq; cases hq
   refine ⟨rfl, hr p.2 ?_⟩
   simp only [Op.operands, List.mem_toArray, List.mem_map]
   exact ⟨p, List.mem_of_getElem? hp, rfl⟩) w
  obtain ⟨x, hx, hrel⟩ := hx
  refine ⟨x, ?_, hrel⟩
  have e : (List.map (fun p => (p.1, ρ p.2)) parts.toList).toArray = parts.map (fun x => (x.1, ρ x.2)) := by
   apply Array.ext'; simp
  rw [e] at hx
  simp [execOp, hx]
 case nilCheck x =>
  have h1 := hr x (by simp [Op.operands])
  split at h
  ·rename_i cs hx
   simp at h; subst h
   rw [hx] at h1
   have h2 := h1
   simp only [RelV, Rel] at h2
   obtain ⟨b, o, e, _⟩ := h2
   exact ⟨ρ x, by simp [execOp, e], h1⟩
  ·rename_i k o hx
   simp at h; subst h
   rw [hx] at h1
   have h2 := h1
   simp only [RelV] at h2
   obtain ⟨_, b, _, e⟩ := h2
   exact ⟨ρ x, by simp [execOp, e], h1⟩
  ·rename_i k n i o hx
   simp at h; subst h
   rw [hx] at h1
   have h2 := h1
   simp only [RelV] at h2
   obtain ⟨_, ⟨b, o, e⟩, _⟩ := h2
   exact ⟨ρ x, by simp [execOp, e], h1⟩
  ·rename_i g a b hx
   simp at h; subst h
   rw [hx] at h1
   have h2 := h1
   simp only [RelV, Rel] at h2
   obtain ⟨fs, cs, e, _⟩ := h2
   exact ⟨ρ x, by simp [execOp, e], h1⟩
  ·simp at h
 case load t x =>
  split at h
  ·rename_i ti cs hti hx
   split at h
   ·rename_i y hy
    simp at h; subst h
    have h1 := hr x (by simp [Op.operands])
    rw [hx] at h1
    simp only [RelV, Rel] at h1
    obtain ⟨b, off, e, hat⟩ := h1
    have hat' := relAt_iff.1 hat
    have hcell : ∀ (i : Nat) d, cs[i]? = some d → d.one = true ∧ ∃ v, w.cell? ⟨b, off + i, none⟩ = some v ∧ Rel M d v := fun i d hd => by
     obtain ⟨h0, v, h1, h2⟩ := hat' i d hd
     exact ⟨h0, v, hM _ _ _ h1, h2⟩
    cases ha : ti.isAgg with
    | true =>
     have hy := partD_old hy
     simp only [partD0, ha] at hy
     split at hy
     ·rename_i hsz
      simp at hy; subst hy
      have hex : ∃ vs : List Value, vs.length = ti.size ∧ (∀ (j : Nat) v, vs[j]? = some v → w.cell? (Addr.add ⟨b, off, none⟩ j) = some v) ∧ RelC M (cs.take ti.size) vs := by
       have : ∀ n, n ≤ cs.length → ∃ vs : List Value, vs.length = n ∧ (∀ (j : Nat) v, vs[j]? = some v → w.cell? (Addr.add ⟨b, off, none⟩ j) = some v) ∧ RelC M (cs.take n) vs := by
        intro n
        induction n with
        | zero => exact fun _ => ⟨[], rfl, by simp, by simp [RelC]⟩
        | succ n ih =>
         intro hn
         obtain ⟨vs, hl, hc, hrel⟩ := ih (by omega)
         have hd := List.getElem?_eq_getElem (show n < cs.length by omega)
         obtain ⟨h0, v, h1, h2⟩ := hcell n _ hd
         refine ⟨vs ++ [v], by simp [hl], fun j u hu => ?_, ?_⟩
         ·rw [List.getElem?_append] at hu
          split at hu
          ·exact hc j u hu
          ·have hj : j = n := by
            have := (List.getElem?_eq_some_iff.1 hu).1
            simp at this; omega
           subst hj
           simp [hl] at hu; subst hu
           rw [addr_add]; exact h1
         ·rw [List.take_add_one, hd]
          refine relC_iff.2 ⟨by simp [hl]; omega, fun i d u hd' hu => ?_⟩
          have hlt : (cs.take n).length = n := by simp; omega
          rw [List.getElem?_append] at hd' hu
          rw [hlt] at hd'
          rw [hl] at hu
          split at hd'
          ·rename_i hi; rw [if_pos hi] at hu; exact (relC_iff.1 hrel).2 i d u hd' hu
          ·rename_i hi; rw [if_neg hi] at hu
           have hj : i - n = 0 := by
            have := (List.getElem?_eq_some_iff.1 hu).1
            simp at this; omega
           rw [hj] at hd' hu
           simp at hd' hu
           subst hd'; subst hu
           exact ⟨h0, h2⟩
       exact this ti.size (by omega)
      obtain ⟨vs, hl, hc, hrel⟩ := hex
      have := run_loadVar_cells hT hti ⟨b, off, none⟩ vs w hc hl (by simp [ha])
      rw [ha] at this
      refine ⟨.agg vs.toArray, ?_, by simp only [RelV, Rel]; exact ⟨vs, rfl, by simpa using hrel⟩⟩
      simp [execOp, Instr.loadAt, e, Instr.sureAddr, this]
     ·simp at hy
    | false =>
     have hy := partD_old hy
     simp only [partD0, ha] at hy
     obtain ⟨h0, v, h1, h2⟩ := hcell 0 y hy
     refine ⟨v, ?_, by simpa only [RelV] using h2⟩
     simp only [Nat.add_zero] at h1
     simp [execOp, Instr.loadAt, e, Instr.sureAddr, loadVar, run_isAgg hT hti, ha, h1]
   ·simp at h
  ·simp at h
 case binOp op t x y yt =>
  obtain ⟨u, hu, hrel⟩ := run_binV hT hS h (hr x (by simp [Op.operands])) (hr y (by simp [Op.operands])) x y w
  refine ⟨u, ?_, hrel⟩
  simp only [execOp, Sem.run_bind, Sem.run_pure] at hu ⊢
  rw [hu]; rfl
 case unOp op t x =>
  have h1 := hr x (by simp [Op.operands])
  split at h
  ·rename_i b hx
   simp at h; subst h
   rw [hx] at h1
   simp only [RelV, Rel] at h1
   exact ⟨.bool (!b), by simp [execOp, h1, Op.unary], by simp [RelV, Rel]⟩
  ·rename_i k n hx
   simp at h; subst h
   rw [hx] at h1
   simp only [RelV, Rel] at h1
   exact ⟨.int k (k.wrap (-n)), by simp [execOp, h1, Op.unary, Op.intArith], by simp only [RelV, Rel]⟩
  ·simp at h
 case convert s t x =>
  split at h
  ·rename_i si ti k n hs ht hx
   split at h
   ·rename_i k' htd
    simp at h; subst h
    have h1 := hr x (by simp [Op.operands])
    rw [hx] at h1
    simp only [RelV, Rel] at h1
    obtain ⟨d, hd, hdk⟩ := hT.under ht
    obtain ⟨d2, hd2, _⟩ := hT.under hs
    rw [htd] at hdk
    cases d <;> simp only [TDOk] at hdk
    subst hdk
    refine ⟨.int k' (k'.wrap n), ?_, by simp [RelV, Rel]⟩
    simp [execOp, convert, run_underlying hd, run_underlying hd2, h1, Conv.intToInt]
   ·simp at h
  ·simp at h
 case makeInterface t x =>
  split at h
  ·rename_i ti y hti hx
   have h1 := hr x (by simp [Op.operands])
   rw [hx] at h1
   simp only [RelV] at h1
   obtain ⟨d, hd, hdk⟩ := hT.under hti
   split at h
   ·simp at h
   ·rename_i hne
    simp at h; subst h
    refine ⟨.iface t (ρ x), ?_, by simp only [RelV, Rel]; exact ⟨_, rfl, h1⟩⟩
    have : P.concrete t = true := by
     unfold Program.concrete
     rw [hd]
     cases d <;> simp
     cases hti2 : ti.td <;> rw [hti2] at hdk <;> simp [TDOk] at hdk
     exact hne hti2
    simp [execOp, run_makeInterface w t _ this]
  ·simp at h
 case makeFunc f first caps =>
  have hf : RelVL M σ η (first.toList.map r) (first.toList.map ρ) := relVL_map r ρ _ (fun x hx => hr x (by simp [Op.operands, Array.mem_toList_iff.1 hx]))
  have hc : RelVL M σ η (caps.toList.map r) (caps.toList.map ρ) := relVL_map r ρ _ (fun x hx => hr x (by simp [Op.operands, Array.mem_toList_iff.1 hx]))
  have e : ∀ a : Array Operand, (a.toList.map ρ).toArray = a.map ρ := fun a => by apply Array.ext'; simp
  split at h
  ·rename_i a b ha hb
   simp at h; subst h
   rw [allD_eq ha] at hf
   rw [allD_eq hb] at hc
   refine ⟨.func f (first.map ρ) (caps.map ρ), by simp [execOp, Instr.makeFunc], ?_⟩
   simp only [RelV, Rel]
   exact ⟨_, _, by rw [e, e], relVL_d.1 hf, relVL_d.1 hc⟩
  ·simp at h; subst h
   refine ⟨.func f (first.map ρ) (caps.map ρ), by simp [execOp, Instr.makeFunc], ?_⟩
   simp only [RelV]
   exact ⟨_, _, by rw [e, e], hf, hc⟩
 case fieldAddr t x f =>
  split at h
  ·rename_i ti hti
   split at h
   ·rename_i fs htd
    split at h
    ·rename_i ft off hfs
     split at h
     ·rename_i fi hfi
      split at h
      ·simp at h
      ·rename_i hsz
       obtain ⟨fields, hu, hfl, _⟩ := hT.struct hti htd
       have hff : ∃ fd, fields[f]? = some fd ∧ fd.type = ft ∧ fd.offset = off := by
        rw [hfl] at hfs
        simp only [List.getElem?_map, Option.map_eq_some_iff] at hfs
        obtain ⟨fd, h1, h2⟩ := hfs
        simp at h1 h2
        exact ⟨fd, h1, h2.1, h2.2⟩
       obtain ⟨fd, hfd, rfl, rfl⟩ := hff
       have h1 := hr x (by simp [Op.operands])
       have key : ∀ b o, ρ x = .pointer (some ⟨b, o, none⟩) → (execOp ρ ⟨dst, .fieldAddr t x f, type, pos, after, guard⟩).run P w = .ok (.value (.pointer (some ⟨b, o + fd.offset, none⟩))) w := by
        intro b o e
        have hne : ¬ fi.size = 0 := hsz
        simp [execOp, Instr.fieldAt, run_underlying hu, hfd, e, Instr.sureAddr, fieldPlace, run_sizeOf' hT hfi, hne, addr_add]
       split at h
       ·rename_i cs hx
        simp at h; subst h
        rw [hx] at h1
        simp only [RelV, Rel] at h1
        obtain ⟨b, o, e, hat⟩ := h1
        refine ⟨_, key b o e, ?_⟩
        simp only [RelV, Rel]
        refine ⟨b, o + fd.offset, rfl, relAt_iff.2 fun i d hd => ?_⟩
        rw [List.getElem?_drop] at hd
        have := relAt_iff.1 hat (fd.offset + i) d hd
        rwa [show o + fd.offset + i = o + (fd.offset + i) by omega]
       ·rename_i k o hx
        simp at h; subst h
        rw [hx] at h1
        simp only [RelV] at h1
        obtain ⟨hk, b, hη, e⟩ := h1
        exact ⟨_, key b o e, by simp only [RelV]; exact ⟨hk, b, hη, rfl⟩⟩
       ·rename_i k n i o hx
        simp at h; subst h
        rw [hx] at h1
        simp only [RelV] at h1
        obtain ⟨hk, ⟨b, o', e⟩, hall⟩ := h1
        refine ⟨_, key b o' e, ?_⟩
        simp only [RelV]
        refine ⟨hk, ⟨_, _, rfl⟩, fun e' es l hl => ⟨(hall e' es l hl).1, fun hn => ?_⟩⟩
        obtain ⟨b', hb', hv⟩ := (hall e' es l hl).2 hn
        rw [e] at hv
        simp at hv
        exact ⟨b', hb', by simp [hv.1, hv.2, Nat.add_assoc]⟩
       ·simp at h
     ·simp at h
    ·simp at h
   ·simp at h
  ·simp at h
 case field t x f =>
  split at h
  ·rename_i ti hti
   split at h
   ·rename_i fs htd
    split at h
    ·rename_i ft off hfs
     split at h
     ·rename_i fi hfi
      obtain ⟨fields, hu, hfl, _⟩ := hT.struct hti htd
      have hff : ∃ fd, fields[f]? = some fd ∧ fd.type = ft ∧ fd.offset = off := by
       rw [hfl] at hfs
       simp only [List.getElem?_map, Option.map_eq_some_iff] at hfs
       obtain ⟨fd, h1, h2⟩ := hfs
       simp at h1 h2
       exact ⟨fd, h1, h2.1, h2.2⟩
      obtain ⟨fd, hfd, rfl, rfl⟩ := hff
      have h1 := hr x (by simp [Op.operands])
      split at h
      ·rename_i cs hx
       split at h
       ·rename_i y hy
        simp at h; subst h
        rw [hx] at h1
        simp only [RelV, Rel] at h1
        obtain ⟨vs, e, hvs⟩ := h1
        obtain ⟨v, hv, hrel⟩ := run_partD (P := P) hT hfi hvs hy w
        refine ⟨v, ?_, by simpa only [RelV] using hrel⟩
        simp [execOp, Instr.field, run_underlying hu, hfd, e, asAgg, hv]
       ·simp at h
      ·rename_i cs hx
       rw [hx] at h1
       simp only [RelV] at h1
       obtain ⟨vs, e, hvs⟩ := h1
       obtain ⟨v, hv, hrel⟩ := run_partV (P := P) hT hfi hvs h w
       refine ⟨v, ?_, hrel⟩
       simp [execOp, Instr.field, run_underlying hu, hfd, e, asAgg, hv]
      ·simp at h
     ·simp at h
    ·simp at h
   ·simp at h
  ·simp at h
 case extract x i =>
  have h1 := hr x (by simp [Op.operands])
  split at h
  ·rename_i ds hx
   split at h
   ·rename_i y hy
    simp at h; subst h
    rw [hx] at h1
    simp only [RelV, Rel] at h1
    obtain ⟨vs, e, hvs⟩ := h1
    obtain ⟨hl, hh⟩ := relL_iff.1 hvs
    have hi : i < ds.length := (List.getElem?_eq_some_iff.1 hy).1
    have hg : vs[i]? = some (vs[i]'(by omega)) := List.getElem?_eq_getElem (by omega)
    refine ⟨vs[i]'(by omega), ?_, by simpa only [RelV] using hh i y _ hy hg⟩
    simp [execOp, Instr.extract, e, hg]
   ·simp at h
  ·rename_i us hx
   rw [hx] at h1
   simp only [RelV] at h1
   obtain ⟨vs, e, hvs⟩ := h1
   obtain ⟨hl, hh⟩ := relVL_iff.1 hvs
   have hi : i < us.length := (List.getElem?_eq_some_iff.1 h).1
   have hg : vs[i]? = some (vs[i]'(by omega)) := List.getElem?_eq_getElem (by omega)
   refine ⟨vs[i]'(by omega), ?_, hh i v _ h hg⟩
   simp [execOp, Instr.extract, e, hg]
  ·simp at h
 case call c =>
  split at h
  ·rename_i b hb
   have hf : RelVL M σ η (c.args.toList.map r) (c.args.toList.map ρ) := relVL_map r ρ _ (fun x hx => hr x (by simp [Op.operands, Call.operands, Array.mem_toList_iff.1 hx]))
   obtain ⟨u, hu, hrel⟩ := run_builtinV (P := P) (ty := type) (cs := c.args.map fun | .const _ => true | _ => false) hT h hf w
   refine ⟨u, ?_, hrel⟩
   have e : ∀ a : Array Operand, (a.toList.map ρ).toArray = a.map ρ := fun a => by apply Array.ext'; simp
   rw [e] at hu
   simp [execOp, resolve, hb, invoke]
   exact hu
  ·simp at h
end
end Go.VM
namespace Go.VM
def KeepK (σ : Sig) (η : Nat → Value) (σ' : Sig) (η' : Nat → Value) (k : Nat) : Prop :=
 (η' k = η k ∧ ∀ e es l', σ'[k]? = some (.arr e es l') → ∃ l, σ[k]? = some (.arr e es l) ∧ l.length = l'.length) ∨
 (∃ e es l l', σ[k]? = some (.arr e es l) ∧ σ'[k]? = some (.arr e es l') ∧ l.length < l'.length ∧ (∀ a, η k ≠ .pointer a) ∧ (∀ r, η k ≠ .map r)) ∨
 (σ'[k]? = some .dead ∧ (∀ a, η k ≠ .pointer a) ∧ (∀ r, η k ≠ .map r))
structure Keeps (M : Mem) (σ : Sig) (η : Nat → Value) (M' : Mem) (σ' : Sig) (η' : Nat → Value) : Prop where
 hm : M.le M'
 hl : σ.length ≤ σ'.length
 hk : ∀ k, k < σ.length → KeepK σ η σ' η' k
section
variable {M M' : Mem} {σ σ' : Sig} {η η' : Nat → Value}
theorem relV_keep (h : Keeps M σ η M' σ' η') : ∀ u x, RelV M σ η u x → RelV M' σ' η' u x := by
 intro u
 refine V.rec (motive_1 := fun u => ∀ x, RelV M σ η u x → RelV M' σ' η' u x)
  (motive_2 := fun l => (∀ vs, RelVL M σ η l vs → RelVL M' σ' η' l vs) ∧ (∀ vs, RelVC M σ η l vs → RelVC M' σ' η' l vs))
  ?_ ?_ ?_ ?_ ?_ ?_ ?_ ?_ ?_ ?_ ?_ ?_ u
 ·intro d x hx; simp only [RelV] at hx ⊢; exact rel_mono h.hm hx
 ·intro x _; simp only [RelV]
 ·intro k off x hx
  simp only [RelV] at hx ⊢
  obtain ⟨hk, b, hη, rfl⟩ := hx
  refine ⟨Nat.lt_of_lt_of_le hk h.hl, b, ?_, rfl⟩
  rcases h.hk k hk with ⟨e, _⟩ | ⟨_, _, _, _, _, _, _, hp, _⟩ | ⟨_, hp, _⟩
  ·rw [e, hη]
  ·exact absurd hη (hp _)
  ·exact absurd hη (hp _)
 ·intro k n x hx
  simp only [RelV] at hx ⊢
  obtain ⟨hk, hs, hall⟩ := hx
  refine ⟨Nat.lt_of_lt_of_le hk h.hl, hs, fun e es l' hl' => ?_⟩
  rcases h.hk k hk with ⟨e', hh⟩ | ⟨e1, es1, l1, l2, h1, h2, hlt, _, _⟩ | ⟨h2, _⟩
  ·obtain ⟨l, hl, hlen⟩ := hh e es l' hl'
   rw [← hlen, e']; exact hall e es l hl
  ·rw [h2] at hl'; cases hl'
   have := (hall _ _ _ h1).1
   exact ⟨by omega, fun hn => by omega⟩
  ·rw [h2] at hl'; cases hl'
 ·intro k n i off x hx
  simp only [RelV] at hx ⊢
  obtain ⟨hk, hs, hall⟩ := hx
  refine ⟨Nat.lt_of_lt_of_le hk h.hl, hs, fun e es l' hl' => ?_⟩
  rcases h.hk k hk with ⟨e', hh⟩ | ⟨e1, es1, l1, l2, h1, h2, hlt, _, _⟩ | ⟨h2, _⟩
  ·obtain ⟨l, hl, hlen⟩ := hh e es l' hl'
   rw [← hlen, e']; exact hall e es l hl
  ·rw [h2] at hl'; cases hl'
   have := (hall _ _ _ h1).1
   exact ⟨by omega, fun hn => by omega⟩
  ·rw [h2] at hl'; cases hl'
 ·intro k x hx
  simp only [RelV] at hx ⊢
  obtain ⟨hk, r, hη, rfl⟩ := hx
  refine ⟨Nat.lt_of_lt_of_le hk h.hl, r, ?_, rfl⟩
  rcases h.hk k hk with ⟨e, _⟩ | ⟨_, _, _, _, _, _, _, _, hp⟩ | ⟨_, _, hp⟩
  ·rw [e, hη]
  ·exact absurd hη (hp _)
  ·exact absurd hη (hp _)
 ·intro cs ih x hx; simp only [RelV] at hx ⊢; obtain ⟨vs, e, r⟩ := hx; exact ⟨vs, e, ih.2 _ r⟩
 ·intro f fi ca ih1 ih2 x hx; simp only [RelV] at hx ⊢; obtain ⟨fs, cs, e, r1, r2⟩ := hx; exact ⟨fs, cs, e, ih1.1 _ r1, ih2.1 _ r2⟩
 ·intro us ih x hx; simp only [RelV] at hx ⊢; obtain ⟨vs, e, r⟩ := hx; exact ⟨vs, e, ih.1 _ r⟩
 ·intro k n i x hx
  simp only [RelV] at hx ⊢
  obtain ⟨hk, hs, hall⟩ := hx
  refine ⟨Nat.lt_of_lt_of_le hk h.hl, hs, fun e es l' hl' => ?_⟩
  rcases h.hk k hk with ⟨e', hh⟩ | ⟨e1, es1, l1, l2, h1, h2, hlt, _, _⟩ | ⟨h2, _⟩
  ·obtain ⟨l, hl, hlen⟩ := hh e es l' hl'
   rw [← hlen, e']; exact hall e es l hl
  ·rw [h2] at hl'; cases hl'
   have := (hall _ _ _ h1).1
   exact ⟨by omega, fun hn => by omega⟩
  ·rw [h2] at hl'; cases hl'
 ·exact ⟨fun vs hv => by simpa only [RelVL] using hv, fun vs hv => by simpa only [RelVC] using hv⟩
 ·intro d ds ihd ih
  refine ⟨fun vs hv => ?_, fun vs hv => ?_⟩
  ·simp only [RelVL] at hv ⊢; obtain ⟨v, r, e, h1, h2⟩ := hv; exact ⟨v, r, e, ihd _ h1, ih.1 _ h2⟩
  ·simp only [RelVC] at hv ⊢; obtain ⟨v, r, e, h0, h1, h2⟩ := hv; exact ⟨v, r, e, h0, ihd _ h1, ih.2 _ h2⟩
theorem relVC_keep (h : Keeps M σ η M' σ' η') {l : List V} {vs : List Value} (hv : RelVC M σ η l vs) : RelVC M' σ' η' l vs :=
 relVC_iff.2 ⟨(relVC_iff.1 hv).1, fun i d v hd hv' => ⟨((relVC_iff.1 hv).2 i d v hd hv').1, relV_keep h d v ((relVC_iff.1 hv).2 i d v hd hv').2⟩⟩
theorem relVL_keep (h : Keeps M σ η M' σ' η') {l : List V} {vs : List Value} (hv : RelVL M σ η l vs) : RelVL M' σ' η' l vs :=
 relVL_iff.2 ⟨(relVL_iff.1 hv).1, fun i d v hd hv' => relV_keep h d v ((relVL_iff.1 hv).2 i d v hd hv')⟩
theorem objRel_keep (h : Keeps M σ η M' σ' η') {w w' : World} {k : Nat} {o : Obj} (hη : η' k = η k) (hb : ∀ b, homeBlock (η k) = some b → w'.heap[b]? = w.heap[b]?) (hlen : w.heap.size ≤ w'.heap.size) (hr : ObjRel M σ η w k o) : ObjRel M' σ' η' w' k o := by
 cases o with
 | dead => trivial
 | cells cs =>
  simp only [ObjRel] at hr ⊢
  obtain ⟨b, c, e, h1, h2, h3⟩ := hr
  exact ⟨b, c, e, by rw [hη, h1], by rw [hb b (by rw [h1]; rfl), h2], relVC_keep h h3⟩
 | arr e es l =>
  simp only [ObjRel] at hr ⊢
  obtain ⟨hbl, xs, h1, h2, h3⟩ := hr
  refine ⟨hbl, xs, ⟨h1.1, ?_⟩, h2, relRow_mono h.hm (fun _ _ hx => hx) h3⟩
  rcases h1.2 with ⟨e1, e2⟩ | ⟨g, cap, cur, e1, e2, e3, e4⟩
  ·exact .inl ⟨by rw [hη, e1], e2⟩
  ·exact .inr ⟨g, cap, cur, by rw [hη, e1], e2, by rw [hb g (by rw [e1]; rfl), e3], e4⟩
 | map l =>
  simp only [ObjRel] at hr ⊢
  obtain ⟨r, ents, clock, h1, h2, h3, h4, h5⟩ := hr
  exact ⟨r, ents, clock, by rw [hη, h1], by rw [hb r (by rw [h1]; rfl), h2], relL_mono h.hm h3, relL_mono h.hm h4, h5⟩
 | raw p cs =>
  simp only [ObjRel] at hr ⊢
  obtain ⟨b, o, h1, h2, h3, h4⟩ := hr
  exact ⟨b, o, by rw [hη, h1], by rw [hb b (by rw [h1]; rfl), h2], h3, relVL_keep h h4⟩
end
theorem cell_of_heap {w w' : World} {b o : Nat} (h : w'.heap[b]? = w.heap[b]?) : w'.cell? ⟨b, o, none⟩ = w.cell? ⟨b, o, none⟩ := by simp [World.cell?, h]
theorem lt_of_cell {w : World} {b o : Nat} {v : Value} (h : w.cell? ⟨b, o, none⟩ = some v) : b < w.heap.size := World.block_lt_of_cell? w ⟨b, o, none⟩ h
structure Ext (w w' : World) : Prop where
 os : w'.os = w.os
 tape : w'.tape = w.tape
 output : w'.output = w.output
 size : w.heap.size ≤ w'.heap.size
 keep : ∀ b, b < w.heap.size → w'.heap[b]? = w.heap[b]?
theorem Ext.refl (w : World) : Ext w w := ⟨rfl, rfl, rfl, Nat.le_refl _, fun _ _ => rfl⟩
theorem Ext.trans {a b c : World} (h : Ext a b) (k : Ext b c) : Ext a c :=
 ⟨k.os.trans h.os, k.tape.trans h.tape, k.output.trans h.output, Nat.le_trans h.size k.size, fun i hi => (k.keep i (Nat.lt_of_lt_of_le hi h.size)).trans (h.keep i hi)⟩
theorem Ext.alloc (w : World) (o : Go.Obj) : Ext w (w.alloc o) := ⟨rfl, rfl, rfl, by simp, fun b hb => Go.RowKit.Below.heap_alloc w o b hb⟩
theorem Ext.drew (w : World) : Ext w w.drew := ⟨rfl, rfl, rfl, Nat.le_refl _, fun _ _ => rfl⟩
section
variable {A : Nat → Prop} {σ : Sig} {η : Nat → Value} {w w' : World}
theorem Ext.mem (h : Ext w w') : Mem.le (mem A η σ w) (mem A η σ w') := fun b o v ⟨h1, h2, h3⟩ => ⟨h1, h2, by rw [cell_of_heap (h.keep b (lt_of_cell h3)), h3]⟩
theorem Keeps.of_ext (h : Ext w w') : Keeps (mem A η σ w) σ η (mem A η σ w') σ η := ⟨h.mem, Nat.le_refl _, fun _ _ => .inl ⟨rfl, fun _ _ l hl => ⟨l, hl, rfl⟩⟩⟩
theorem SigRel.ext (hs : SigRel A σ η w) (h : Ext w w') : SigRel A σ η w' where
 objs k o ho := by
  by_cases hd : o = .dead
  ·subst hd; trivial
  ·refine objRel_keep (Keeps.of_ext h) rfl (fun b hb => h.keep b (hs.out b ⟨k, o, ho, hd, hb⟩).2) h.size (hs.objs k o ho)
 inj := hs.inj
 out b hb := ⟨(hs.out b hb).1, Nat.lt_of_lt_of_le (hs.out b hb).2 h.size⟩
 bound b hb := Nat.lt_of_lt_of_le (hs.bound b hb) h.size
theorem Trans.of_ext (m : Nat) (h : Ext w w') : Trans m σ η w σ η w' :=
 ⟨h.os, h.tape, h.output, h.size, fun b hb _ => h.keep b hb, fun _ hb => .inl hb, fun _ cs _ hk => ⟨⟨cs, hk⟩, rfl⟩, fun _ l _ hk => ⟨⟨l, hk⟩, rfl⟩, fun _ _ _ l _ h => .inr ⟨l, h, .inr ⟨rfl, rfl⟩⟩, fun _ _ h => h, fun _ p cs _ h => ⟨⟨p, cs, h⟩, rfl⟩⟩
structure Nxt (m : Nat) (A : Nat → Prop) (σ : Sig) (η : Nat → Value) (w : World) (v : V) (x : Value) (σ' : Sig) (η' : Nat → Value) (w' : World) : Prop where
 sig : SigRel A σ' η' w'
 keeps : Keeps (mem A η σ w) σ η (mem A η' σ' w') σ' η'
 val : RelV (mem A η' σ' w') σ' η' v x
 trans : Trans m σ η w σ' η' w'
theorem Nxt.of_ext {m : Nat} {v : V} {x : Value} (hs : SigRel A σ η w) (h : Ext w w') (hv : RelV (Go.VM.mem A η σ w') σ η v x) : Nxt m A σ η w v x σ η w' :=
 ⟨hs.ext h, .of_ext h, hv, .of_ext m h⟩
end
def setη (η : Nat → Value) (k : Nat) (v : Value) : Nat → Value := fun j => if j = k then v else η j
theorem owned_alloc {σ : Sig} {η : Nat → Value} {o : Obj} {v : Value} {b : Nat} (hd : o ≠ .dead) : Owned (setη η σ.length v) (σ ++ [o]) b ↔ Owned η σ b ∨ homeBlock v = some b := by
 constructor
 ·rintro ⟨k, o', hk, hd', hb⟩
  rw [List.getElem?_append] at hk
  split at hk
  ·rename_i hlt
   refine .inl ⟨k, o', hk, hd', ?_⟩
   simpa [setη, Nat.ne_of_lt hlt] using hb
  ·rename_i hge
   have hk0 : k = σ.length := by
    have := (List.getElem?_eq_some_iff.1 hk).1
    simp at this; omega
   subst hk0
   exact .inr (by simpa [setη] using hb)
 ·rintro (⟨k, o', hk, hd', hb⟩ | hb)
  ·have hlt := (List.getElem?_eq_some_iff.1 hk).1
   exact ⟨k, o', by rw [List.getElem?_append_left hlt]; exact hk, hd', by simpa [setη, Nat.ne_of_lt hlt] using hb⟩
  ·exact ⟨σ.length, o, by simp, hd, by simpa [setη] using hb⟩
theorem Nxt.alloc {m : Nat} {A : Nat → Prop} {σ : Sig} {η : Nat → Value} {w w' : World} (hs : SigRel A σ η w) (h : Ext w w') {hv : Value} {o : Obj} (hd : o ≠ .dead) (hnew : ∀ b, homeBlock hv = some b → w.heap.size ≤ b ∧ b < w'.heap.size)
  (ho : Keeps (mem A η σ w) σ η (mem A (setη η σ.length hv) (σ ++ [o]) w') (σ ++ [o]) (setη η σ.length hv) → ObjRel (mem A (setη η σ.length hv) (σ ++ [o]) w') (σ ++ [o]) (setη η σ.length hv) w' σ.length o)
  {v : V} {x : Value} (hval : RelV (mem A (setη η σ.length hv) (σ ++ [o]) w') (σ ++ [o]) (setη η σ.length hv) v x) (hm : m ≤ σ.length) :
  Nxt m A σ η w v x (σ ++ [o]) (setη η σ.length hv) w' := by
 have hkeep : Keeps (mem A η σ w) σ η (mem A (setη η σ.length hv) (σ ++ [o]) w') (σ ++ [o]) (setη η σ.length hv) := by
  refine ⟨fun b o' y ⟨h1, h2, h3⟩ => ⟨h1, ?_, ?_⟩, by simp, fun k hk => .inl ⟨by simp [setη, Nat.ne_of_lt hk], fun e es l hl => ⟨l, ?_, rfl⟩⟩⟩
  ·rw [owned_alloc hd]
   rintro (h4 | h4)
   ·exact h2 h4
   ·have := lt_of_cell h3
    have := (hnew b h4).1
    omega
  ·rw [cell_of_heap (h.keep b (lt_of_cell h3)), h3]
  ·rw [List.getElem?_append_left hk] at hl; exact hl
 refine ⟨⟨fun k o' hk => ?_, fun k k' o1 o2 b h1 d1 h2 d2 hb1 hb2 => ?_, fun b hb => ?_, fun b hb => Nat.lt_of_lt_of_le (hs.bound b hb) h.size⟩, hkeep, hval,
  ⟨h.os, h.tape, h.output, h.size, fun b hb _ => h.keep b hb, fun b hb => ?_, fun k cs hk hc => ⟨⟨cs, ?_⟩, ?_⟩, fun k l hk hc => ⟨⟨l, ?_⟩, ?_⟩, fun k e es l hk hc => .inr ⟨l, ?_, .inr ⟨rfl, ?_⟩⟩, fun k hk hc => ?_, fun k p cs hk hc => ⟨⟨p, cs, ?_⟩, ?_⟩⟩⟩
 ·rw [List.getElem?_append] at hk
  split at hk
  ·rename_i hlt
   by_cases hdd : o' = .dead
   ·subst hdd; trivial
   ·exact objRel_keep hkeep (by simp [setη, Nat.ne_of_lt hlt]) (fun b hb => h.keep b (hs.out b ⟨k, o', hk, hdd, hb⟩).2) h.size (hs.objs k o' hk)
  ·rename_i hge
   have hk0 : k = σ.length := by
    have := (List.getElem?_eq_some_iff.1 hk).1
    simp at this; omega
   subst hk0
   simp at hk; subst hk
   exact ho hkeep
 ·rw [List.getElem?_append] at h1 h2
  split at h1 <;> split at h2
  ·rename_i l1 l2
   exact hs.inj k k' o1 o2 b h1 d1 h2 d2 (by simpa [setη, Nat.ne_of_lt l1] using hb1) (by simpa [setη, Nat.ne_of_lt l2] using hb2)
  ·rename_i l1 l2
   have hk0 : k' = σ.length := by
    have := (List.getElem?_eq_some_iff.1 h2).1
    simp at this; omega
   subst hk0
   simp only [setη, if_true] at hb2
   have := (hnew b hb2).1
   have := (hs.out b ⟨k, o1, h1, d1, by simpa [setη, Nat.ne_of_lt l1] using hb1⟩).2
   omega
  ·rename_i l1 l2
   have hk0 : k = σ.length := by
    have := (List.getElem?_eq_some_iff.1 h1).1
    simp at this; omega
   subst hk0
   simp only [setη, if_true] at hb1
   have := (hnew b hb1).1
   have := (hs.out b ⟨k', o2, h2, d2, by simpa [setη, Nat.ne_of_lt l2] using hb2⟩).2
   omega
  ·have := (List.getElem?_eq_some_iff.1 h1).1
   have := (List.getElem?_eq_some_iff.1 h2).1
   simp at *
   omega
 ·rw [owned_alloc hd] at hb
  rcases hb with hb | hb
  ·exact ⟨(hs.out b hb).1, Nat.lt_of_lt_of_le (hs.out b hb).2 h.size⟩
  ·exact ⟨fun ha => by have := hs.bound b ha; have := (hnew b hb).1; omega, (hnew b hb).2⟩
 ·rw [owned_alloc hd] at hb
  exact hb.imp id (fun hb => (hnew b hb).1)
 ·rw [List.getElem?_append_left (by omega)]; exact hc
 ·simp [setη]; omega
 ·rw [List.getElem?_append_left (by omega)]; exact hc
 ·simp [setη]; omega
 ·rw [List.getElem?_append_left (by omega)]; exact hc
 ·simp [setη]; omega
 ·rw [List.getElem?_append_left (by omega)]; exact hc
 ·rw [List.getElem?_append_left (by omega)]; exact hc
 ·simp [setη]; omega
end Go.VM
namespace Go.VM
theorem setη_self (η : Nat → Value) (k : Nat) : setη η k (η k) = η := by funext j; simp only [setη]; split <;> simp_all
theorem set_get {σ : Sig} {k j : Nat} {o : Obj} (hk : k < σ.length) : (σ.set k o)[j]? = if j = k then some o else σ[j]? := by
 rw [List.getElem?_set]
 split
 ·rename_i h; subst h; simp [hk]
 ·rename_i h; rw [if_neg (fun e => h e.symm)]
theorem owned_put {σ : Sig} {η : Nat → Value} {k : Nat} {o o' : Obj} {hv : Value} {b : Nat} (hk : σ[k]? = some o) (hd' : o' ≠ .dead) :
  Owned (setη η k hv) (σ.set k o') b → Owned η σ b ∨ homeBlock hv = some b := by
 have hlt := (List.getElem?_eq_some_iff.1 hk).1
 rintro ⟨j, o1, hj, hd1, hb⟩
 rw [set_get hlt] at hj
 by_cases e : j = k
 ·subst e; exact .inr (by simpa [setη] using hb)
 ·rw [if_neg e] at hj; exact .inl ⟨j, o1, hj, hd1, by simpa [setη, e] using hb⟩
theorem Nxt.put {m : Nat} {A : Nat → Prop} {σ : Sig} {η : Nat → Value} {w w' : World} (hs : SigRel A σ η w) {k : Nat} {o o' : Obj} (hk : σ[k]? = some o) (hd : o ≠ .dead) (hd' : o' ≠ .dead) {hv : Value}
  (hos : w'.os = w.os) (htape : w'.tape = w.tape) (hout : w'.output = w.output) (hsize : w.heap.size ≤ w'.heap.size)
  (hkeepW : ∀ b, b < w.heap.size → homeBlock (η k) ≠ some b → w'.heap[b]? = w.heap[b]?)
  (hblk : ∀ b, homeBlock hv = some b → (homeBlock (η k) = some b ∨ w.heap.size ≤ b) ∧ b < w'.heap.size)
  (hkk : KeepK σ η (σ.set k o') (setη η k hv) k)
  (hbox : ∀ cs, o = .cells cs → (∃ cs', o' = .cells cs') ∧ hv = η k) (hmap : ∀ l, o = .map l → (∃ l', o' = .map l') ∧ hv = η k)
  (hrow : ∀ e es l, o = .arr e es l → ∃ l', o' = .arr e es l')
  (ho : Keeps (mem A η σ w) σ η (mem A (setη η k hv) (σ.set k o') w') (σ.set k o') (setη η k hv) → ObjRel (mem A (setη η k hv) (σ.set k o') w') (σ.set k o') (setη η k hv) w' k o')
  {v : V} {x : Value} (hval : Keeps (mem A η σ w) σ η (mem A (setη η k hv) (σ.set k o') w') (σ.set k o') (setη η k hv) → RelV (mem A (setη η k hv) (σ.set k o') w') (σ.set k o') (setη η k hv) v x) (hnr : ∀ p cs, o = .raw p cs → (∃ p' cs', o' = .raw p' cs') ∧ hv = η k := by intro p cs hp; cases hp) :
  Nxt m A σ η w v x (σ.set k o') (setη η k hv) w' := by
 have hlt := (List.getElem?_eq_some_iff.1 hk).1
 have hcell : ∀ b o y, ¬ Owned η σ b → w.cell? ⟨b, o, none⟩ = some y → w'.cell? ⟨b, o, none⟩ = some y := fun b o1 y hn hc => by
  rw [cell_of_heap (hkeepW b (lt_of_cell hc) (fun e => hn ⟨k, o, hk, hd, e⟩)), hc]
 have hkeep : Keeps (mem A η σ w) σ η (mem A (setη η k hv) (σ.set k o') w') (σ.set k o') (setη η k hv) := by
  refine ⟨fun b o1 y ⟨h1, h2, h3⟩ => ⟨h1, fun h4 => ?_, hcell b o1 y h2 h3⟩, by simp, fun j hj => ?_⟩
  ·rcases owned_put hk hd' h4 with h5 | h5
   ·exact h2 h5
   ·rcases (hblk b h5).1 with h6 | h6
    ·exact h2 ⟨k, o, hk, hd, h6⟩
    ·have := lt_of_cell h3; omega
  ·by_cases e : j = k
   ·subst e; exact hkk
   ·exact .inl ⟨by simp [setη, e], fun e1 es l hl => ⟨l, by rw [set_get hlt, if_neg e] at hl; exact hl, rfl⟩⟩
 refine ⟨⟨fun j o1 hj => ?_, fun j j' o1 o2 b h1 d1 h2 d2 hb1 hb2 => ?_, fun b hb => ?_, fun b hb => Nat.lt_of_lt_of_le (hs.bound b hb) hsize⟩, hkeep, hval hkeep,
  ⟨hos, htape, hout, hsize, fun b hb hn => hkeepW b hb (fun e => hn ⟨k, o, hk, hd, e⟩), fun b hb => ?_, fun j cs hj hc => ?_, fun j l hj hc => ?_, fun j e es l hj hc => ?_, fun j hj hc => ?_, fun j p cs hj hc => ?_⟩⟩
 ·rw [set_get hlt] at hj
  by_cases e : j = k
  ·subst e; simp at hj; subst hj; exact ho hkeep
  ·rw [if_neg e] at hj
   by_cases hdd : o1 = .dead
   ·subst hdd; trivial
   ·refine objRel_keep hkeep (by simp [setη, e]) (fun b hb => hkeepW b (hs.out b ⟨j, o1, hj, hdd, hb⟩).2 (fun e2 => e (hs.inj j k o1 o b hj hdd hk hd hb e2))) hsize (hs.objs j o1 hj)
 ·rw [set_get hlt] at h1 h2
  have hnew : ∀ (i : Nat) (oi : Obj), i ≠ k → σ[i]? = some oi → oi ≠ .dead → homeBlock (η i) = some b → homeBlock hv = some b → False := fun i oi hi h1 d1 e1 e2 => by
   rcases (hblk b e2).1 with h | h
   ·exact hi (hs.inj i k oi o b h1 d1 hk hd e1 h)
   ·have := (hs.out b ⟨i, oi, h1, d1, e1⟩).2; omega
  by_cases e1 : j = k <;> by_cases e2 : j' = k
  ·rw [e1, e2]
  ·exfalso
   subst e1
   rw [if_neg e2] at h2
   exact hnew j' o2 e2 h2 d2 (by simpa [setη, e2] using hb2) (by simpa [setη] using hb1)
  ·exfalso
   subst e2
   rw [if_neg e1] at h1
   exact hnew j o1 e1 h1 d1 (by simpa [setη, e1] using hb1) (by simpa [setη] using hb2)
  ·rw [if_neg e1] at h1
   rw [if_neg e2] at h2
   exact hs.inj j j' o1 o2 b h1 d1 h2 d2 (by simpa [setη, e1] using hb1) (by simpa [setη, e2] using hb2)
 ·rcases owned_put hk hd' hb with h5 | h5
  ·exact ⟨(hs.out b h5).1, Nat.lt_of_lt_of_le (hs.out b h5).2 hsize⟩
  ·rcases (hblk b h5) with ⟨h6 | h6, h7⟩
   ·exact ⟨(hs.out b ⟨k, o, hk, hd, h6⟩).1, h7⟩
   ·exact ⟨fun ha => by have := hs.bound b ha; omega, h7⟩
 ·rcases owned_put hk hd' hb with h5 | h5
  ·exact .inl h5
  ·rcases (hblk b h5).1 with h6 | h6
   ·exact .inl ⟨k, o, hk, hd, h6⟩
   ·exact .inr h6
 ·by_cases e : j = k
  ·subst e
   rw [hk] at hc; cases hc
   obtain ⟨⟨cs', h1⟩, h2⟩ := hbox cs rfl
   exact ⟨⟨cs', by rw [set_get hlt]; simp [h1]⟩, by simp [setη, h2]⟩
  ·exact ⟨⟨cs, by rw [set_get hlt, if_neg e]; exact hc⟩, by simp [setη, e]⟩
 ·by_cases e : j = k
  ·subst e
   rw [hk] at hc; cases hc
   obtain ⟨⟨l', h1⟩, h2⟩ := hmap l rfl
   exact ⟨⟨l', by rw [set_get hlt]; simp [h1]⟩, by simp [setη, h2]⟩
  ·exact ⟨⟨l, by rw [set_get hlt, if_neg e]; exact hc⟩, by simp [setη, e]⟩
 ·by_cases e0 : j = k
  ·subst e0
   rw [hk] at hc; cases hc
   obtain ⟨l', h1⟩ := hrow e es l rfl
   refine .inr ⟨l', by rw [set_get hlt]; simp [h1], ?_⟩
   rcases hkk with ⟨h2, h3⟩ | ⟨e1, es1, l1, l2, h2, h3, h4, _⟩ | ⟨h2, _⟩
   ·obtain ⟨l2, h5, h6⟩ := h3 e es l' (by rw [set_get hlt]; simp [h1])
    rw [hk] at h5; cases h5
    exact .inr ⟨h6.symm, h2⟩
   ·rw [hk] at h2; cases h2
    rw [set_get hlt] at h3
    simp [h1] at h3; subst h3
    exact .inl h4
   ·rw [set_get hlt] at h2
    simp [h1] at h2
  ·exact .inr ⟨l, by rw [set_get hlt, if_neg e0]; exact hc, .inr ⟨rfl, by simp [setη, e0]⟩⟩
 ·have e0 : j ≠ k := fun e => by subst e; rw [hk] at hc; cases hc; exact hd rfl
  rw [set_get hlt, if_neg e0]; exact hc
 ·by_cases e0 : j = k
  ·subst e0
   rw [hk] at hc; cases hc
   obtain ⟨⟨p', cs', h1⟩, h2⟩ := hnr p cs rfl
   exact ⟨⟨p', cs', by rw [set_get hlt]; simp [h1]⟩, by simp [setη, h2]⟩
  ·rw [set_get hlt, if_neg e0]; exact ⟨⟨p, cs, hc⟩, by simp [setη, e0]⟩
section
variable {A : Nat → Prop} {σ : Sig} {η : Nat → Value} {w : World} {P : Program} {T : Tab}
theorem run_readOp (hT : TabOk P T) (hs : SigRel A σ η w) {o : Oper} {r : Operand → V} {v : V} (h : readOp T o.op r σ = some v) {ρ : Operand → Value} (hr : ∀ x ∈ o.op.operands, RelV (mem A η σ w) σ η (r x) (ρ x)) :
  ∃ x, (execOp ρ o).run P w = .ok (.value x) w ∧ RelV (mem A η σ w) σ η v x := by
 obtain ⟨dst, op, type, pos, after, guard⟩ := o
 simp only at h hr
 cases op <;> simp only [readOp] at h <;> try (exfalso; revert h; simp; done)
 case load t x =>
  split at h
  ·rename_i ti k off hti hx
   split at h
   ·rename_i cs hk
    have h1 := hr x (by simp [Op.operands])
    rw [hx] at h1
    simp only [RelV] at h1
    obtain ⟨hkl, b, hη, e⟩ := h1
    have ho := hs.objs k _ hk
    simp only [ObjRel] at ho
    obtain ⟨b', c, el, hη', hheap, hrel⟩ := ho
    rw [hη] at hη'; cases hη'
    have hcell : ∀ (j : Nat) v, c.toList[j]? = some v → w.cell? ⟨b, j, none⟩ = some v := fun j v hv => by
     simp only [World.cell?, hheap]; simpa using hv
    have hlen := relVC_length hrel
    have h := partV_old h
    unfold partV0 at h
    split at h
    ·rename_i ha
     split at h
     ·rename_i hsz
      simp at h; subst h
      have := run_loadVar_cells hT hti ⟨b, off, none⟩ ((c.toList.drop off).take ti.size) w (fun j v hv => by
       rw [addr_add]
       rw [List.getElem?_take] at hv
       split at hv
       ·rw [List.getElem?_drop] at hv; exact hcell _ _ hv
       ·simp at hv) (by simp; simp at hlen; omega) (by simp [ha])
      rw [ha] at this
      refine ⟨_, ?_, relV_mkAgg (relVC_take (relVC_drop hrel off) ti.size)⟩
      simp only [execOp, Instr.loadAt, e, Instr.sureAddr, pure_bind, Sem.run_bind, this, Result.andThen_ok]
      rfl
     ·simp at h
    ·rename_i ha
     obtain ⟨u, hu, _, hrel'⟩ := relVC_get hrel h
     refine ⟨u, ?_, hrel'⟩
     simp [execOp, Instr.loadAt, e, Instr.sureAddr, loadVar, run_isAgg hT hti, ha, hcell _ _ hu]
   ·simp at h
  ·simp at h
theorem run_newVar (t : TypeId) (v : Value) : (newVar t v).run P w = .ok ⟨w.heap.size, 0, none⟩ (w.alloc (.cells v.cells t)) := rfl
theorem run_allocOp {m : Nat} (hm : m ≤ σ.length) (hT : TabOk P T) (hs : SigRel A σ η w) {o : Oper} {r : Operand → V} {v : V} {ob : Obj} (h : allocOp T o.op r σ.length = some (v, ob)) {ρ : Operand → Value} (hr : ∀ x ∈ o.op.operands, RelV (mem A η σ w) σ η (r x) (ρ x)) :
  ∃ x w' η', (execOp ρ o).run P w = .ok (.value x) w' ∧ Nxt m A σ η w v x (σ ++ [ob]) η' w' := by
 obtain ⟨dst, op, type, pos, after, guard⟩ := o
 simp only at h hr
 have key : ∀ (cs : List V) (c : Array Value) (t : TypeId), RelVC (mem A η σ w) σ η cs c.toList →
   Nxt m A σ η w (.own σ.length 0) (.pointer (some ⟨w.heap.size, 0, none⟩)) (σ ++ [.cells cs]) (setη η σ.length (.pointer (some ⟨w.heap.size, 0, none⟩))) (w.alloc (.cells c t)) := fun cs c t hrel => by
  refine Nxt.alloc hs (Ext.alloc w _) (by simp) (fun b hb => by simp [homeBlock] at hb; subst hb; simp) (fun hk => ?_) ?_ hm
  ·simp only [ObjRel]
   exact ⟨w.heap.size, c, t, by simp [setη], heap_alloc_new w _, relVC_keep hk hrel⟩
  ·simp only [RelV]
   exact ⟨by simp, w.heap.size, by simp [setη], rfl⟩
 cases op <;> simp only [allocOp] at h <;> try (exfalso; revert h; simp; done)
 case alloc t =>
  split at h
  ·rename_i ti hti
   rw [dcells_eq] at h
   simp at h
   obtain ⟨rfl, rfl⟩ := h
   obtain ⟨z, hz, hzr, _⟩ := run_zeroValue' hT hti
   refine ⟨_, _, _, ?_, key _ _ t (relVC_d (hzr _))⟩
   simp [execOp, Instr.alloc, hz, run_newVar]
  ·simp at h
 case box t x =>
  rw [cellsF_eq] at h
  split at h
  ·rename_i ti cs hw hti hcs hw2
   simp at hcs; subst hcs
   split at h
   ·simp at h
    obtain ⟨rfl, rfl⟩ := h
    refine ⟨_, _, _, ?_, key _ _ t (relV_cells (hr x (by simp [Op.operands])) hw2)⟩
    simp [execOp, Instr.box, run_newVar]
   ·simp at h
  ·simp at h
theorem run_writeOp {m : Nat} (hT : TabOk P T) (hs : SigRel A σ η w) {o : Oper} {r : Operand → V} {σ' : Sig} (h : writeOp T o.op r σ = some σ') {ρ : Operand → Value} (hr : ∀ x ∈ o.op.operands, RelV (mem A η σ w) σ η (r x) (ρ x)) :
  ∃ w' η', (execOp ρ o).run P w = .ok .skip w' ∧ ∀ x, Nxt m A σ η w .any x σ' η' w' := by
 obtain ⟨dst, op, type, pos, after, guard⟩ := o
 simp only at h hr
 cases op <;> simp only [writeOp] at h <;> try (exfalso; revert h; simp; done)
 case store t a x =>
  split at h
  ·rename_i ti k off hti hx
   split at h
   ·rename_i cs hk
    split at h
    ·rename_i cs' hst
     simp at h; subst h
     have h1 := hr a (by simp [Op.operands])
     rw [hx] at h1
     simp only [RelV] at h1
     obtain ⟨hkl, b, hη, e⟩ := h1
     have ho := hs.objs k _ hk
     simp only [ObjRel] at ho
     obtain ⟨b', c, el, hη', hheap, hrel⟩ := ho
     rw [hη] at hη'; cases hη'
     have hst := storeV_old hst
     unfold storeV0 at hst
     split at hst
     ·rename_i hcond
      obtain ⟨c1, c2, c3⟩ := hcond
      simp at hst; subst hst
      have hcells := relV_cells (hr x (by simp [Op.operands])) c3
      have hl1 := relVC_length hcells
      have hl2 := relVC_length hrel
      have hstore := run_storeCells_at P b off el (ρ x).cells.toList 0 c w hheap (by simp; simp at hl1 hl2; omega) (relVC_one hcells)
      simp only [Nat.add_zero] at hstore
      have hput := relVC_putAt hrel off hcells
      refine ⟨w.setRow b (List.take off c.toList ++ (ρ x).cells.toList ++ List.drop (off + (ρ x).cells.toList.length) c.toList).toArray, setη η k (η k), ?_, fun y => ?_⟩
      ·have hsz : (ρ x).cells.size = ti.size := by rw [← c1, hl1]; simp
       simp only [execOp, Instr.storeAt, e, Instr.sureAddr, pure_bind, storeVar, Sem.run_bind, run_sizeOf' hT hti, Result.andThen_ok]
       rw [if_neg (by simp [hsz])]
       simp only [Sem.run_bind, Sem.run_pure, Result.andThen_ok, hstore]
      ·have hblt : b < w.heap.size := (Array.getElem?_eq_some_iff.1 hheap).1
       refine Nxt.put hs hk (by simp) (by simp) (by rfl) (by rfl) (by rfl) (by simp [World.setRow]) (fun b' hb' hne => ?_) (fun b' hb' => ?_) ?_ (fun cs0 _ => ⟨⟨_, rfl⟩, rfl⟩) (fun l hl => by simp at hl) (fun e es l hl => by simp at hl) (fun hk' => ?_) (fun _ => by simp only [RelV])
       ·refine setRow_other w b b' _ (fun e => hne (by rw [hη, e]; rfl))
       ·rw [hη] at hb' ⊢
        exact ⟨.inl hb', by simp [homeBlock] at hb'; subst hb'; simp [World.setRow, hblt]⟩
       ·refine .inl ⟨by simp [setη], fun e1 es l hl => ?_⟩
        rw [set_get hkl] at hl
        simp at hl
       ·simp only [ObjRel]
        exact ⟨b, _, el, by simp [setη, hη], setRow_heap w b c _ el _ hheap, by simpa using relVC_keep hk' hput⟩
     ·simp at hst
    ·simp at h
   ·simp at h
  ·simp at h
end
end Go.VM
namespace Go.VM
def memA (A : Nat → Prop) (w : World) : Mem := fun b o v => ¬ A b ∧ w.cell? ⟨b, o, none⟩ = some v
def Enterable (P : Program) (f : FuncId) : Prop := ∃ fn, P.funcs[f]? = some fn ∧ fn.body.isSome = true ∧ (fn.name == "runtime.NumGoroutine") = false
def PCalls (P : Program) (f : FuncId) (args : List D) (r : D) : Prop :=
 Enterable P f ∧ ∀ (A : Nat → Prop) (w : World) (vals : List Value), (∀ b, A b → b < w.heap.size) → RelL (memA A w) args vals →
  Calls P f vals.toArray w fun e w' => ∃ v, e = .returned v ∧ Rel (memA A w') r v ∧ Ext w w'
def GCalls (P : Program) (f : FuncId) (args : List V) (σ : Sig) (r : V) (σ' : Sig) : Prop :=
 Enterable P f ∧ ∀ (A : Nat → Prop) (η : Nat → Value) (w : World) (vals : List Value), SigRel A σ η w → RelVL (mem A η σ w) σ η args vals →
  Calls P f vals.toArray w fun e w' => ∃ v η', e = .returned v ∧ SigRel A σ' η' w' ∧ RelV (mem A η' σ' w') σ' η' r v ∧ Trans σ.length σ η w σ' η' w'
def elemSize (T : Tab) (t : TypeId) : Option Nat :=
 match T t with
 | some ti => match ti.td with | .slice e => (match T e with | some te => some te.size | none => none) | _ => none
 | none => none
mutual
def D.flat : D → Bool
 | .lit _ => true
 | .agg cs => D.flatL cs
 | .tuple cs => D.flatL cs
 | _ => false
def D.flatL : List D → Bool
 | [] => true
 | d :: ds => d.flat && D.flatL ds
end
theorem flat_rel {M M' : Mem} : ∀ d, d.flat = true → ∀ x, Rel M d x → Rel M' d x := by
 intro d
 refine D.rec (motive_1 := fun d => d.flat = true → ∀ x, Rel M d x → Rel M' d x)
  (motive_2 := fun l => D.flatL l = true → (∀ vs, RelL M l vs → RelL M' l vs) ∧ (∀ vs, RelC M l vs → RelC M' l vs)) ?_ ?_ ?_ ?_ ?_ ?_ ?_ ?_ ?_ ?_ d
 ·intro v _ x hx; simpa only [Rel] using hx
 ·intro cs ih hf x hx; simp only [Rel] at hx ⊢; obtain ⟨vs, e, r⟩ := hx; exact ⟨vs, e, (ih (by simpa [D.flat] using hf)).2 _ r⟩
 ·intro es l ih hf; simp [D.flat] at hf
 ·intro cs ih hf; simp [D.flat] at hf
 ·intro f a b ih1 ih2 hf; simp [D.flat] at hf
 ·intro t d ih hf; simp [D.flat] at hf
 ·intro cs ih hf x hx; simp only [Rel] at hx ⊢; obtain ⟨vs, e, r⟩ := hx; exact ⟨vs, e, (ih (by simpa [D.flat] using hf)).1 _ r⟩
 ·intro c hf; simp [D.flat] at hf
 ·intro _; exact ⟨fun vs hv => by simpa only [RelL] using hv, fun vs hv => by simpa only [RelC] using hv⟩
 ·intro d ds ihd ih hf
  simp only [D.flatL, Bool.and_eq_true] at hf
  refine ⟨fun vs hv => ?_, fun vs hv => ?_⟩
  ·simp only [RelL] at hv ⊢; obtain ⟨v, r, e, h1, h2⟩ := hv; exact ⟨v, r, e, ihd hf.1 _ h1, (ih hf.2).1 _ h2⟩
  ·simp only [RelC] at hv ⊢; obtain ⟨v, r, e, h0, h1, h2⟩ := hv; exact ⟨v, r, e, h0, ihd hf.1 _ h1, (ih hf.2).2 _ h2⟩
inductive Fz (σ : Sig) : V → D → Prop where
 | d {x : D} : Fz σ (.d x) x
 | own {k off : Nat} {cs : List V} {ds : List D} (h : σ[k]? = some (.cells cs)) (hd : cs.length = ds.length) (hc : ∀ (i : Nat) u x, cs[i]? = some u → ds[i]? = some x → Fz σ u x) : Fz σ (.own k off) (.ptr (ds.drop off))
 | osl {k n : Nat} {e : TypeId} {es : Nat} {l : List D} (h : σ[k]? = some (.arr e es l)) (hn : l.length = n) : Fz σ (.osl k n) (.list es l)
 | fn {f : Fn} {a b : List V} {a' b' : List D} (h1 : a.length = a'.length) (h2 : ∀ (i : Nat) u x, a[i]? = some u → a'[i]? = some x → Fz σ u x) (h3 : b.length = b'.length) (h4 : ∀ (i : Nat) u x, b[i]? = some u → b'[i]? = some x → Fz σ u x) : Fz σ (.fn f a b) (.fn f a' b')
 | agg {cs : List V} {ds : List D} (hd : cs.length = ds.length) (hc : ∀ (i : Nat) u x, cs[i]? = some u → ds[i]? = some x → Fz σ u x) : Fz σ (.agg cs) (.agg ds)
inductive FzL (σ : Sig) : List V → List D → Prop where
 | nil : FzL σ [] []
 | cons {u : V} {x : D} {us : List V} {xs : List D} (h : Fz σ u x) (k : FzL σ us xs) : FzL σ (u :: us) (x :: xs)
theorem FzL.length {σ : Sig} {us : List V} {xs : List D} (h : FzL σ us xs) : us.length = xs.length := by induction h <;> simp_all
theorem FzL.get {σ : Sig} {us : List V} {xs : List D} (h : FzL σ us xs) : ∀ (i : Nat) u x, us[i]? = some u → xs[i]? = some x → Fz σ u x := by
 induction h with
 | nil => simp
 | cons h k ih => intro i; cases i with
  | zero => intro u x hu hx; simp at hu hx; subst hu; subst hx; exact h
  | succ i => intro u x hu hx; exact ih i u x (by simpa using hu) (by simpa using hx)
theorem Fz.own' {σ : Sig} {k off : Nat} {cs : List V} {ds : List D} (h : σ[k]? = some (.cells cs)) (hc : FzL σ cs ds) : Fz σ (.own k off) (.ptr (ds.drop off)) := .own h hc.length hc.get
theorem Fz.fn' {σ : Sig} {f : Fn} {a b : List V} {a' b' : List D} (h1 : FzL σ a a') (h2 : FzL σ b b') : Fz σ (.fn f a b) (.fn f a' b') := .fn h1.length h1.get h2.length h2.get
section
variable {A : Nat → Prop} {σ : Sig} {η : Nat → Value} {w : World} {P : Program} {T : Tab}
theorem mem_memA : Mem.le (mem A η σ w) (memA A w) := fun _ _ _ ⟨h1, _, h3⟩ => ⟨h1, h3⟩
theorem fz_rel (hs : SigRel A σ η w) {u : V} {x : D} (h : Fz σ u x) : ∀ v, RelV (mem A η σ w) σ η u v → Rel (memA A w) x v := by
 induction h with
 | d => intro v hv; simp only [RelV] at hv; exact rel_mono mem_memA hv
 | @own k off cs ds h hd hc ih =>
  intro v hv
  simp only [RelV] at hv
  obtain ⟨hk, b, hη, rfl⟩ := hv
  have ho := hs.objs k _ h
  simp only [ObjRel] at ho
  obtain ⟨b', c, e, hη', hheap, hrel⟩ := ho
  rw [hη] at hη'; cases hη'
  have hA : ¬ A b := (hs.out b ⟨k, _, h, by simp, by rw [hη]; rfl⟩).1
  simp only [Rel]
  refine ⟨b, off, rfl, relAt_iff.2 fun i d hd' => ?_⟩
  rw [List.getElem?_drop] at hd'
  have hlt : off + i < cs.length := by rw [hd]; exact (List.getElem?_eq_some_iff.1 hd').1
  have hu := List.getElem?_eq_getElem hlt
  obtain ⟨y, hy, h1, h2⟩ := relVC_get hrel hu
  have h3 := ih _ _ _ hu hd' y h2
  exact ⟨one_of_cell h3 h1, y, ⟨hA, by simp only [World.cell?, hheap]; simpa using hy⟩, h3⟩
 | @osl k n e es l h hn =>
  intro v hv
  simp only [RelV] at hv
  obtain ⟨hk, _, hall⟩ := hv
  have := (hall e es l h).2 hn
  subst this
  have ho := hs.objs k _ h
  simp only [ObjRel] at ho
  obtain ⟨hbl, xs, h1, h2, h3⟩ := ho
  simp only [Rel]
  rcases h1.2 with ⟨e1, e2⟩ | ⟨g, cap, cur, e1, e2, e3, e4, e5, e6, e7⟩
  ·exact ⟨none, 0, by rw [e1, e2], ⟨by omega, hbl⟩, .inl ⟨List.eq_nil_of_length_eq_zero e2, fun _ => rfl⟩⟩
  ·refine ⟨some ⟨g, 0, none⟩, cap, e1, ⟨e4, hbl⟩, .inr ⟨g, 0, rfl, ?_⟩⟩
   have hA : ¬ A g := (hs.out g ⟨k, _, h, by simp, by rw [e1]; rfl⟩).1
   refine relRow_mono mem_memA (fun o v hv => ⟨hA, ?_⟩) h3
   rw [← e7, List.getElem?_take] at hv
   split at hv
   ·simp only [World.cell?, e3]; simpa using hv
   ·simp at hv
 | @fn f a b a' b' h1 h2 h3 h4 ih1 ih2 =>
  intro v hv
  simp only [RelV] at hv
  obtain ⟨fs, cs, rfl, r1, r2⟩ := hv
  simp only [Rel]
  have key : ∀ (l : List V) (ds : List D) (vs : List Value), l.length = ds.length → (∀ (i : Nat) u x, l[i]? = some u → ds[i]? = some x → ∀ v, RelV (mem A η σ w) σ η u v → Rel (memA A w) x v) → RelVL (mem A η σ w) σ η l vs → RelL (memA A w) ds vs := fun l ds vs hl hh hr => by
   obtain ⟨e1, e2⟩ := relVL_iff.1 hr
   refine relL_iff.2 ⟨by omega, fun i d v hd hv => ?_⟩
   have hlt : i < l.length := by have := (List.getElem?_eq_some_iff.1 hd).1; omega
   exact hh i _ d (List.getElem?_eq_getElem hlt) hd v (e2 i _ v (List.getElem?_eq_getElem hlt) hv)
  exact ⟨fs, cs, rfl, key _ _ _ h1 ih1 r1, key _ _ _ h3 ih2 r2⟩
 | @agg cs ds hd hc ih =>
  intro v hv
  simp only [RelV] at hv
  obtain ⟨vs, rfl, hr⟩ := hv
  simp only [Rel]
  refine ⟨vs, rfl, ?_⟩
  obtain ⟨e1, e2⟩ := relVC_iff.1 hr
  refine relC_iff.2 ⟨by omega, fun i d v hd' hv => ?_⟩
  have hlt : i < cs.length := by have := (List.getElem?_eq_some_iff.1 hd').1; omega
  obtain ⟨h1, h2⟩ := e2 i _ v (List.getElem?_eq_getElem hlt) hv
  have h3 := ih i _ d (List.getElem?_eq_getElem hlt) hd' v h2
  exact ⟨one_of_cell h3 h1, h3⟩
theorem fzL_rel (hs : SigRel A σ η w) {us : List V} {xs : List D} (h : FzL σ us xs) : ∀ vs, RelVL (mem A η σ w) σ η us vs → RelL (memA A w) xs vs := by
 induction h with
 | nil => intro vs hv; simp only [RelVL] at hv; subst hv; simp [RelL]
 | cons h k ih => intro vs hv; simp only [RelVL] at hv; obtain ⟨v, r, rfl, h1, h2⟩ := hv; simp only [RelL]; exact ⟨v, r, rfl, fz_rel hs h _ h1, ih _ h2⟩
end
end Go.VM
namespace Go.VM
def fnParts : V → Option (FuncId × List V × List V)
 | .d (.fn (.func g) a b) => some (g, a.map .d, b.map .d)
 | .fn (.func g) a b => some (g, a, b)
 | _ => none
def elemInfo (T : Tab) (t : TypeId) : Option (TypeId × Nat × Nat) :=
 match T t with
 | some ti => match ti.td with | .slice e => (match T e with | some te => some (e, te.size, te.bytes) | none => none) | _ => none
 | none => none
def callV (op : Op) (r : Operand → V) : Option (FuncId × List V) :=
 match op with
 | .call c => match c.callee with
  | .value f => match fnParts (r f) with
   | some (g, a, b) => some (g, a ++ c.args.toList.map r ++ b)
   | none => none
  | _ => none
 | _ => none
def callD (op : Op) (r : Operand → V) : Option (FuncId × List D) :=
 match op with
 | .call c => match c.callee with
  | .value f => match r f, allD (c.args.toList.map r) with
   | .d (.fn (.func g) a b), some ds => some (g, a ++ (ds ++ b))
   | _, _ => none
  | _ => none
 | _ => none
theorem callD_V {op : Op} {r : Operand → V} {g : FuncId} {ds : List D} (h : callD op r = some (g, ds)) : callV op r = some (g, ds.map .d) := by
 unfold callD at h
 split at h
 ·split at h
  ·rename_i f hf
   split at h
   ·rename_i g' a b ds' hr hd
    simp only [Option.some.injEq, Prod.mk.injEq] at h
    obtain ⟨rfl, rfl⟩ := h
    simp [callV, hf, hr, fnParts, allD_eq hd]
   ·simp at h
  ·simp at h
 ·simp at h
def bound (r : Operand → V) (dflt : Nat) : Option Operand → Option Int
 | none => some dflt
 | some x => match r x with | .d (.lit (.int _ n)) => some n | _ => none
def sliceB (T : Tab) (t : TypeId) : Bool := match T t with | some ti => (match ti.td with | .slice _ => true | _ => false) | none => false
def intB (T : Tab) (t : TypeId) : Bool := match T t with | some ti => (match ti.td with | .int _ => true | _ => false) | none => false
def ents (kk : IntKind) (m : List (Int × D)) : List (D × D) := m.map fun y => (.lit (.int kk y.1), y.2)
def mgetD (n : Int) (m : List (Int × D)) (z : D) : D := match m.findIdx? (fun y => y.1 == n) with | some j => ((m[j]?).map (·.2)).getD z | none => z
def mput (n : Int) (v : D) (m : List (Int × D)) : List (Int × D) := match m.findIdx? (fun y => y.1 == n) with | some j => m.set j (n, v) | none => m ++ [(n, v)]
def mapT (T : Tab) (t : TypeId) : Option (TypeId × TypeId × IntKind) :=
 match T t with
 | some ti => match ti.td with
  | .map k e => match T k with
   | some tk => match tk.td with | .int kk => some (k, e, kk) | _ => none
   | none => none
  | _ => none
 | none => none
inductive PureSem (P : Program) (T : Tab) (op : Op) (r : Operand → V) : V → Prop where
 | fn {v : V} (h : pureOp T op r = some v) : PureSem P T op r v
 | call {g : FuncId} {ds : List D} {res : D} (h : callD op r = some (g, ds)) (hp : PCalls P g ds res) : PureSem P T op r (.d res)
 | invoke {c : Call} {x : Operand} {name : String} {t : TypeId} {d : D} {ti : TI} {g : FuncId} {ds : List D} {res : D} (h : op = .call c) (hc : c.callee = .invoke x name) (hx : r x = .d (.iface t d)) (ht : T t = some ti)
   (hm : (name, g) ∈ ti.meths) (hd : allD (c.args.toList.map r) = some ds) (hp : PCalls P g (d :: ds) res) : PureSem P T op r (.d res)
 | eqNil {t t' : TypeId} {x : Operand} {es : Nat} {d : D} {l : List D} (h : op = .binOp .eql t x (.const (.slice none 0 0)) t') (hx : r x = .d (.list es (d :: l))) (ht : (match T t with | some ti => (match ti.td with | .slice _ => true | _ => false) | none => false) = true) : PureSem P T op r (.d (.lit (.bool false)))
 | eqNil1 {t t' : TypeId} {x : Operand} {c : Bool} (h : op = .binOp .eql t x (.const (.slice none 0 0)) t') (hx : r x = .d (.empt c)) (ht : (match T t with | some ti => (match ti.td with | .slice _ => true | _ => false) | none => false) = true) : PureSem P T op r (.d (.lit (.bool false)))
 | eqNil2 {t t' : TypeId} {x : Operand} (h : op = .binOp .eql t x (.const (.slice none 0 0)) t') (hx : r x = .d (.lit (.slice none 0 0))) (ht : (match T t with | some ti => (match ti.td with | .slice _ => true | _ => false) | none => false) = true) : PureSem P T op r (.d (.lit (.bool true)))
 | capNil {c : Call} {x : Operand} {t : TypeId} (h : op = .call c) (hc : c.callee = .builtin .cap) (ha : c.args = #[x]) (ht : c.argTypes = #[t]) (hx : r x = .d (.lit (.slice none 0 0))) (hT : sliceB T t = true) : PureSem P T op r (.d (.lit (.int .i64 0)))
 | sliceNil {t : TypeId} {x : Operand} {lo hi : Option Operand} (h : op = .slice t x lo hi none) (hx : r x = .d (.lit (.slice none 0 0))) (he : (elemSize T t).isSome = true) (hlo : bound r 0 lo = some 0) (hhi : bound r 0 hi = some 0) : PureSem P T op r (.d (.lit (.slice none 0 0)))
 | index {t : TypeId} {x i : Operand} {es : Nat} {l : List D} {k : IntKind} {n : Int} {y : D} (h : op = .indexAddr t x i) (hx : r x = .d (.list es l)) (hi : r i = .d (.lit (.int k n))) (he : elemSize T t = some es) (h0 : 0 ≤ n) (hy : l[n.toNat]? = some y) :
   PureSem P T op r (.d (.ptr y.cells))
 | rem {t t' : TypeId} {x y : Operand} {k : IntKind} {a b : Int} (h : op = .binOp .rem t x y t') (hx : r x = .d (.lit (.int k a))) (hy : r y = .d (.lit (.int k b))) (hb : b ≠ 0) : PureSem P T op r (.d (.lit (.int k (a.tmod b))))
 | quo {t t' : TypeId} {x y : Operand} {k : IntKind} {a b : Int} (h : op = .binOp .quo t x y t') (hx : r x = .d (.lit (.int k a))) (hy : r y = .d (.lit (.int k b))) (hb : b ≠ 0) : PureSem P T op r (.d (.lit (.int k (k.wrap (a.tdiv b)))))
 | slice {t : TypeId} {x : Operand} {lo hi : Option Operand} {es : Nat} {l : List D} {i j : Int} (h : op = .slice t x lo hi none) (hx : r x = .d (.list es l)) (he : elemSize T t = some es) (hlo : bound r 0 lo = some i) (hhi : bound r l.length hi = some j)
   (h0 : 0 ≤ i) (h1 : i ≤ j) (h2 : j ≤ l.length) : PureSem P T op r (.d (.list es ((l.take j.toNat).drop i.toNat)))
 | build {t : TypeId} {n es : Nat} {parts : Array (Nat × Operand)} {ds : List D} (h : op = .buildSlice t n parts) (he : elemSize T t = some es) (h0 : 0 < es) (hn : n * es ≤ 16777216) (hp : parts.toList.map (·.1) = List.range n)
   (hd : allD (parts.toList.map fun p => r p.2) = some ds) (hs : ∀ d ∈ ds, d.cells.length = es ∧ (V.d d).whole = true) : PureSem P T op r (.d (.list es ds))
def FCalls (P : Program) (f : FuncId) (args : List D) (r : D) : Prop :=
 Enterable P f ∧ ∀ (A : Nat → Prop) (w : World) (vals : List Value), (∀ b, A b → b < w.heap.size) → RelL (memA A w) args vals →
  Calls P f vals.toArray w fun e w' => ∃ v, e = .returned v ∧ Rel (memA (fun b => b < w.heap.size) w') r v ∧ Ext w w'
inductive ReadSem (P : Program) (T : Tab) (op : Op) (r : Operand → V) (σ : Sig) : V → Prop where
 | fn {v : V} (h : readOp T op r σ = some v) : ReadSem P T op r σ v
 | call {g : FuncId} {us : List V} {ds : List D} {res : D} (h : callV op r = some (g, us)) (hz : FzL σ us ds) (hp : PCalls P g ds res) (hf : res.flat = true) : ReadSem P T op r σ (.d res)
 | callF {g : FuncId} {us : List V} {ds : List D} {res : D} (h : callV op r = some (g, us)) (hz : FzL σ us ds) (hp : FCalls P g ds res) : ReadSem P T op r σ (.d res)
 | indexO {t e : TypeId} {x i : Operand} {k n : Nat} {kk : IntKind} {j : Int} {es : Nat} {l : List D} (h : op = .indexAddr t x i) (hx : r x = .osl k n) (hi : r i = .d (.lit (.int kk j))) (hk : σ[k]? = some (.arr e es l)) (hn : l.length = n) (he : elemSize T t = some es)
   (h0 : 0 ≤ j) (h1 : j < n) : ReadSem P T op r σ (.optr k n j.toNat 0)
 | lookup {t key el : TypeId} {x i : Operand} {kk : IntKind} {k : Nat} {n : Int} {m : List (Int × D)} {z : Value} (h : op = .lookup t x i false) (hx : r x = .omap k) (hi : r i = .d (.lit (.int kk n))) (hk : σ[k]? = some (.map (ents kk m))) (ht : mapT T t = some (key, el, kk)) (hz : (P.info? el).map (·.zero) = some (some z)) :
   ReadSem P T op r σ (.d (mgetD n m (.lit z)))
 | tail {t e : TypeId} {x lo : Operand} {k n es : Nat} {kk : IntKind} {i : Int} {l : List D} (h : op = .slice t x (some lo) none none) (hx : r x = .osl k n) (hl : r lo = .d (.lit (.int kk i))) (hk : σ[k]? = some (.arr e es l)) (hn : l.length = n) (he : elemSize T t = some es) (h0 : 0 ≤ i) (h1 : i ≤ n) :
   ReadSem P T op r σ (.otail k n i.toNat)
 | loadO {t e : TypeId} {x : Operand} {k n i off es : Nat} {l : List D} {d y : D} {ti : TI} (h : op = .load t x) (hx : r x = .optr k n i off) (hk : σ[k]? = some (.arr e es l)) (hn : l.length = n) (hd : l[i]? = some d) (hT : T t = some ti) (hy : partD ti d.cells off = some y) :
   ReadSem P T op r σ (.d y)
def D.put (d : D) (off : Nat) (ys : List D) : D := match d with | .agg cs => .agg (cs.take off ++ ys ++ cs.drop (off + ys.length)) | _ => ys.headD d
inductive Src (σ : Sig) (es : Nat) : V → List D → Prop where
 | list {xs : List D} : Src σ es (.d (.list es xs)) xs
 | nil : Src σ es (.d (.lit (.slice none 0 0))) []
 | empt {c : Bool} : Src σ es (.d (.empt c)) []
 | osl {k n : Nat} {e : TypeId} {xs : List D} (hk : σ[k]? = some (.arr e es xs)) (hn : xs.length = n) : Src σ es (.osl k n) xs
inductive WriteSem (P : Program) (T : Tab) (op : Op) (r : Operand → V) (σ : Sig) : V → Sig → Prop where
 | fn {σ' : Sig} (h : writeOp T op r σ = some σ') : WriteSem P T op r σ .any σ'
 | append {c : Call} {s x : Operand} {t e : TypeId} {k n es by_ : Nat} {l xs : List D} (h : op = .call c) (hc : c.callee = .builtin .append) (ha : c.args = #[s, x]) (ht : c.argTypes = #[t, t]) (hs : r s = .osl k n) (hk : σ[k]? = some (.arr e es l)) (hn : l.length = n)
   {u : V} (hu : r x = u) (hx : Src σ es u xs) (he : elemInfo T t = some (e, es, by_)) (h0 : 0 < es) (hb : (n + xs.length) * by_ ≤ 140737488355328) (hb1 : n + xs.length ≤ 4294967296) : WriteSem P T op r σ (.osl k (n + xs.length)) (σ.set k (.arr e es (l ++ xs)))
 | mapUpdate {t key el : TypeId} {x i y : Operand} {kk : IntKind} {k : Nat} {n : Int} {m : List (Int × D)} {d : D} (h : op = .mapUpdate t x i y) (hx : r x = .omap k) (hi : r i = .d (.lit (.int kk n))) (hy : r y = .d d) (hk : σ[k]? = some (.map (ents kk m))) (ht : mapT T t = some (key, el, kk)) :
   WriteSem P T op r σ .any (σ.set k (.map (ents kk (mput n d m))))
 | clear {c : Call} {x : Operand} {t e : TypeId} {k n i es by_ : Nat} {l : List D} {te : TI} (h : op = .call c) (hc : c.callee = .builtin .clear) (ha : c.args = #[x]) (ht : c.argTypes = #[t]) (hx : r x = .otail k n i) (hi : i ≤ n) (hk : σ[k]? = some (.arr e es l)) (hn : l.length = n)
   (he : elemInfo T t = some (e, es, by_)) (hT : T e = some te) (h0 : 0 < es) : WriteSem P T op r σ .any (σ.set k (.arr e es (l.take i ++ List.replicate (n - i) te.zero)))
 | storeO {t e : TypeId} {a x : Operand} {k n i off es : Nat} {l : List D} {d y : D} {ti : TI} (h : op = .store t a x) (ha : r a = .optr k n i off) (hk : σ[k]? = some (.arr e es l)) (hn : l.length = n) (hd : l[i]? = some d) (hT : T t = some ti) (hx : r x = .d y)
   (hw : (V.d y).whole = true) (hl : y.cells.length = ti.size) (ho : off + ti.size ≤ d.cells.length) (hs : (D.put d off y.cells).cells = d.cells.take off ++ y.cells ++ d.cells.drop (off + y.cells.length)) :
   WriteSem P T op r σ .any (σ.set k (.arr e es (l.set i (D.put d off y.cells))))
inductive Tag where | pure | read | alloc | write | wild
 deriving DecidableEq
inductive AllocSem (P : Program) (T : Tab) (op : Op) (r : Operand → V) (n : Nat) : V → Obj → Prop where
 | makeS {t e : TypeId} {x y : Operand} {kx ky : IntKind} {i j : Int} {es by_ : Nat} {te : TI} (h : op = .makeSlice t x y) (hx : r x = .d (.lit (.int kx i))) (hy : r y = .d (.lit (.int ky j))) (he : elemInfo T t = some (e, es, by_)) (hT : T e = some te) (h0 : 0 < es)
   (hi : 0 ≤ i) (hij : i ≤ j) (hj : j ≤ 4294967296) (hb : j * by_ ≤ 140737488355328) : AllocSem P T op r n (.osl n i.toNat) (.arr e es (List.replicate i.toNat te.zero))
 | fn {v : V} {o : Obj} (h : allocOp T op r n = some (v, o)) : AllocSem P T op r n v o
 | makeMap {t : TypeId} (h : op = .makeMap t none) : AllocSem P T op r n (.omap n) (.map [])
 | zeros {c : Call} {s x : Operand} {t ti e : TypeId} {k es by_ : Nat} {kk : IntKind} {te : TI} (h : op = .call c) (hc : c.callee = .builtin .append) (ha : c.args = #[s, x]) (ht : c.argTypes = #[t, ti]) (hs : r s = .d (.lit (.slice none 0 0))) (hx : r x = .d (.lit (.int kk k))) (hti : intB T ti = true)
   (he : elemInfo T t = some (e, es, by_)) (hT : T e = some te) (h0 : 0 < es) (hk : 0 < k) (hb : k * by_ ≤ 140737488355328) (hb1 : k ≤ 4294967296) : AllocSem P T op r n (.osl n k) (.arr e es (List.replicate k te.zero))
 | build {t e : TypeId} {len es by_ : Nat} {parts : Array (Nat × Operand)} {ds : List D} (h : op = .buildSlice t len parts) (he : elemInfo T t = some (e, es, by_)) (h0 : 0 < es) (hn : len * es ≤ 16777216) (hp : parts.toList.map (·.1) = List.range len)
   (hd : allD (parts.toList.map fun p => r p.2) = some ds) (hs : ∀ d ∈ ds, d.cells.length = es ∧ (V.d d).whole = true) : AllocSem P T op r n (.osl n len) (.arr e es ds)
def Obj.plain : Obj → Bool
 | .cells cs => (allD cs).isSome
 | .raw _ _ => false
 | _ => true
def Obj.live : Obj → Bool
 | .dead => false
 | _ => true
def ren (ks : List Nat) (n : Nat) (i : Nat) : Nat := if i < ks.length then ks.getD i 0 else n + (i - ks.length)
mutual
def V.ren (ks : List Nat) (n : Nat) : V → V
 | .own k o => .own (Go.VM.ren ks n k) o
 | .osl k m => .osl (Go.VM.ren ks n k) m
 | .optr k m i o => .optr (Go.VM.ren ks n k) m i o
 | .omap k => .omap (Go.VM.ren ks n k)
 | .agg cs => .agg (V.renL ks n cs)
 | .fn f a b => .fn f (V.renL ks n a) (V.renL ks n b)
 | .tuple l => .tuple (V.renL ks n l)
 | .otail k m i => .otail (Go.VM.ren ks n k) m i
 | .d x => .d x
 | .any => .any
def V.renL (ks : List Nat) (n : Nat) : List V → List V
 | [] => []
 | u :: us => u.ren ks n :: V.renL ks n us
end
mutual
def V.bnd (n : Nat) : V → Bool
 | .own k _ | .osl k _ | .optr k _ _ _ | .omap k | .otail k _ _ => k < n
 | .agg cs => V.bndL n cs
 | .fn _ a b => V.bndL n a && V.bndL n b
 | .tuple l => V.bndL n l
 | .d _ | .any => true
def V.bndL (n : Nat) : List V → Bool
 | [] => true
 | u :: us => u.bnd n && V.bndL n us
end
mutual
def V.flt : V → Bool
 | .d x => x.flat
 | .any | .own _ _ | .osl _ _ | .optr _ _ _ _ | .omap _ | .otail _ _ _ => true
 | .agg cs => V.fltL cs
 | .fn _ _ _ => false
 | .tuple l => V.fltL l
def V.fltL : List V → Bool
 | [] => true
 | u :: us => u.flt && V.fltL us
end
def Obj.flat : Obj → Bool
 | .dead => true
 | .cells cs => match allD cs with | some ds => D.flatL ds | none => false
 | .arr _ _ l => D.flatL l
 | .map l => D.flatL (l.map (·.1)) && D.flatL (l.map (·.2))
 | .raw _ _ => false
def killAt (ks : List Nat) : Nat → Sig → Sig
 | _, [] => []
 | i, o :: σ => cond (ks.any (Nat.beq i)) Obj.dead o :: killAt ks (i + 1) σ
inductive Arg (σ : Sig) (ks : List Nat) : V → V → Prop where
 | look {u : V} {x : D} (h : Fz (killAt ks 0 σ) u x) : Arg σ ks u (.d x)
 | hnd {u a : V} (h : u = a.ren ks 0) (hb : a.bnd ks.length = true) : Arg σ ks u a
inductive ArgL (σ : Sig) (ks : List Nat) : List V → List V → Prop where
 | nil : ArgL σ ks [] []
 | cons {u a : V} {us as0 : List V} (h : Arg σ ks u a) (k : ArgL σ ks us as0) : ArgL σ ks (u :: us) (a :: as0)
def putAll : Sig → List Nat → Sig → Sig
 | σ, [], σ' => σ ++ σ'
 | σ, _ :: _, [] => σ
 | σ, k :: ks, o :: σ' => putAll (σ.set k o) ks σ'
def Obj.ren (ks : List Nat) (n : Nat) : Obj → Obj
 | .cells cs => .cells (V.renL ks n cs)
 | .dead => .dead
 | .arr e es l => .arr e es l
 | .map l => .map l
 | .raw p cs => .raw p (V.renL ks n cs)
def Obj.bndO (n : Nat) : Obj → Bool
 | .cells cs => V.bndL n cs
 | .raw _ cs => V.bndL n cs
 | _ => true
def YCalls (P : Program) (y : Value) (args : List D) (σ : Sig) (b : Bool) (σ' : Sig) : Prop :=
 ∀ A η w vals, SigRel A σ η w → RelL (mem A η σ w) args vals →
  ∃ l fn tmps assign body, y = .func (.yield l) #[] #[] ∧ (Instr.yield l vals.toArray).run P w = .ok (.round l fn tmps assign body) w ∧
   ∀ r n, RoundIn (fw r) n P l fn tmps assign body w (fun e w' => ∃ η', e = .returned (.bool b) ∧ SigRel A σ' η' w' ∧ Trans σ.length σ η w σ' η' w')
inductive Sem1 (P : Program) (T : Tab) (op : Op) (r : Operand → V) : Sig → V → Sig → Tag → Prop where
 | pure {σ : Sig} {v : V} (h : PureSem P T op r v) : Sem1 P T op r σ v σ .pure
 | read {σ : Sig} {v : V} (h : ReadSem P T op r σ v) : Sem1 P T op r σ v σ .read
 | alloc {σ : Sig} {v : V} {o : Obj} (h : AllocSem P T op r σ.length v o) : Sem1 P T op r σ v (σ ++ [o]) .alloc
 | write {σ σ' : Sig} {v : V} (h : WriteSem P T op r σ v σ') : Sem1 P T op r σ v σ' .write
 | trunc {σ : Sig} {t e : TypeId} {x hi : Operand} {k n es : Nat} {kk : IntKind} {j : Int} {l : List D} (h : op = .slice t x none (some hi) none) (hx : r x = .osl k n) (hh : r hi = .d (.lit (.int kk j))) (hk : σ[k]? = some (.arr e es l)) (hn : l.length = n) (he : elemSize T t = some es) (h0 : 0 ≤ j) (h1 : j ≤ n) :
   Sem1 P T op r σ (.osl σ.length j.toNat) (σ.set k .dead ++ [.arr e es (l.take j.toNat)]) .wild
 | gcall {σ σs σs' : Sig} {g : FuncId} {us as0 : List V} {ks : List Nat} {r0 : V} (h : callV op r = some (g, us)) (hn : ks.Nodup) (hk : ks.map (fun k => σ[k]?) = σs.map some) (hpl : σs.all Obj.plain = true) (hlv : σs.all Obj.live = true) (ha : ArgL σ ks us as0)
   (hp : GCalls P g as0 σs r0 σs') (hf : σs'.all Obj.flat = true) (hr : r0.flt = true) : Sem1 P T op r σ (r0.ren ks σ.length) (putAll σ ks σs') .wild
 | gcall2 {σ σs σs' : Sig} {g : FuncId} {us as0 : List V} {ks : List Nat} {r0 : V} (h : callV op r = some (g, us)) (hn : ks.Nodup) (hk : ks.map (fun k => σ[k]?) = σs.map (fun o => some (o.ren ks 0))) (hb : σs.all (Obj.bndO σs.length) = true) (hlv : σs.all Obj.live = true)
   (ha : us = V.renL ks 0 as0) (hab : V.bndL σs.length as0 = true) (hp : GCalls P g as0 σs r0 σs') : Sem1 P T op r σ (r0.ren ks σ.length) (putAll σ ks (σs'.map (Obj.ren ks σ.length))) .wild
 | ycall {σ σs σs' : Sig} {c : Call} {f : Operand} {y : Value} {ds : List D} {ks : List Nat} {b : Bool} (h : op = .call c) (hc : c.callee = .value f) (hf : r f = .d (.lit y)) (ha : allD (c.args.toList.map r) = some ds) (hn : ks.Nodup)
   (hk : ks.map (fun k => σ[k]?) = σs.map (fun o => some (o.ren ks 0))) (hb : σs.all (Obj.bndO σs.length) = true) (hlv : σs.all Obj.live = true) (hp : YCalls P y ds σs b σs') : Sem1 P T op r σ (.d (.lit (.bool b))) (putAll σ ks (σs'.map (Obj.ren ks σ.length))) .wild
section
variable {A : Nat → Prop} {σ : Sig} {η : Nat → Value} {w : World} {P : Program} {T : Tab}
theorem run_callFunc {g : FuncId} (h : Enterable P g) (args : Array Value) (w : World) : (callFunc g args).run P w = .ok (.enter g args) w := by
 obtain ⟨fn, h1, h2, h3⟩ := h
 have h2' : ¬ fn.body = none := by cases hb : fn.body <;> simp_all
 have h3' : ¬ fn.name = "runtime.NumGoroutine" := by simpa using h3
 simp [callFunc, h1, h3', h2']
theorem run_callV {op : Op} {r : Operand → V} {g : FuncId} {us : List V} (h : callV op r = some (g, us)) {ρ : Operand → Value} {M : Mem} (hr : ∀ x ∈ op.operands, RelV M σ η (r x) (ρ x)) (hg : Enterable P g) (o : Oper) (ho : o.op = op) (w : World) :
  ∃ vals : List Value, (execOp ρ o).run P w = .ok (.enter g vals.toArray) w ∧ RelVL M σ η us vals := by
 subst ho
 obtain ⟨dst, op, type, pos, after, guard⟩ := o
 simp only at h hr
 unfold callV at h
 split at h
 ·rename_i c
  split at h
  ·rename_i f hf
   split at h
   ·rename_i g' a b hp
    simp only [Option.some.injEq, Prod.mk.injEq] at h
    obtain ⟨rfl, rfl⟩ := h
    have h1 := hr f (by simp [Op.operands, Call.operands, hf])
    have hargs : RelVL M σ η (c.args.toList.map r) (c.args.toList.map ρ) := relVL_map r ρ _ (fun x hx => hr x (by simp [Op.operands, Call.operands, Array.mem_toList_iff.1 hx]))
    have e : ∀ a : Array Operand, (a.toList.map ρ).toArray = a.map ρ := fun a => by apply Array.ext'; simp
    have key : ∃ fs cs : List Value, ρ f = .func (.func g') fs.toArray cs.toArray ∧ RelVL M σ η a fs ∧ RelVL M σ η b cs := by
     unfold fnParts at hp
     split at hp
     ·rename_i g1 a1 b1 hx
      simp at hp
      obtain ⟨rfl, rfl, rfl⟩ := hp
      rw [hx] at h1
      simp only [RelV, Rel] at h1
      obtain ⟨fs, cs, e1, r1, r2⟩ := h1
      exact ⟨fs, cs, e1, relVL_d.2 r1, relVL_d.2 r2⟩
     ·rename_i g1 a1 b1 hx
      simp at hp
      obtain ⟨rfl, rfl, rfl⟩ := hp
      rw [hx] at h1
      simp only [RelV] at h1
      exact h1
     ·simp at hp
    obtain ⟨fs, cs, e1, r1, r2⟩ := key
    refine ⟨fs ++ c.args.toList.map ρ ++ cs, ?_, ?_⟩
    ·simp only [execOp, resolve, hf, e1, Deferred.ofValue, Sem.run_bind, Sem.run_pure, Result.andThen_ok, invoke]
     rw [run_callFunc hg]
     congr 2
     apply Array.ext'
     simp
    ·have app : ∀ {x y : List V} {u v : List Value}, RelVL M σ η x u → RelVL M σ η y v → RelVL M σ η (x ++ y) (u ++ v) := by
      intro x y u v h1 h2
      induction x generalizing u with
      | nil => simp only [RelVL] at h1; subst h1; simpa using h2
      | cons p ps ih => simp only [RelVL] at h1; obtain ⟨q, qs, rfl, h3, h4⟩ := h1; simp only [List.cons_append, RelVL]; exact ⟨q, qs ++ v, rfl, h3, ih h4⟩
     exact app (app r1 hargs) r2
   ·simp at h
  ·simp at h
 ·simp at h
theorem memA_owned : memA (fun b => A b ∨ Owned η σ b) w = mem A η σ w := by
 funext b o v
 simp only [memA, mem, eq_iff_iff]
 constructor
 ·rintro ⟨h1, h2⟩; exact ⟨fun h => h1 (.inl h), fun h => h1 (.inr h), h2⟩
 ·rintro ⟨h1, h2, h3⟩; exact ⟨fun h => h.elim h1 h2, h3⟩
theorem rel_row_at {M : Mem} {rd : Nat → Value → Prop} {es o : Nat} {l : List D} (h : RelRow M rd es o l) {i : Nat} {d : D} (hd : l[i]? = some d) : RelAt M rd (o + i * es) d.cells := (relRow_iff.1 h i d hd).2
theorem relRow_slice {M : Mem} {rd : Nat → Value → Prop} {es o : Nat} {l : List D} (h : RelRow M rd es o l) (i j : Nat) : RelRow M rd es (o + i * es) ((l.take j).drop i) := by
 refine relRow_iff.2 fun k d hd => ?_
 rw [List.getElem?_drop, List.getElem?_take] at hd
 split at hd
 ·have := relRow_iff.1 h (i + k) d hd
  rwa [show o + i * es + k * es = o + (i + k) * es by rw [Nat.add_mul]; omega]
 ·simp at hd
theorem elemSize_eq (hT : TabOk P T) {t : TypeId} {es : Nat} (h : elemSize T t = some es) : ∃ e te, P.underlying t = some (.slice e) ∧ T e = some te ∧ te.size = es := by
 unfold elemSize at h
 split at h
 ·rename_i ti hti
  split at h
  ·rename_i e htd
   split at h
   ·rename_i te hte
    simp at h
    obtain ⟨d, hu, hd⟩ := hT.under hti
    rw [htd] at hd
    cases d <;> simp only [TDOk] at hd
    subst hd
    exact ⟨_, te, hu, hte, h⟩
   ·simp at h
  ·simp at h
 ·simp at h
theorem run_bound {M : Mem} {r : Operand → V} {ρ : Operand → Value} {dflt : Nat} {x : Option Operand} {n : Int} (h : bound r dflt x = some n) (hr : ∀ y, x = some y → RelV M σ η (r y) (ρ y)) : (x = none ∧ n = dflt) ∨ ∃ y k, x = some y ∧ ρ y = .int k n := by
 cases x with
 | none => simp [bound] at h; exact .inl ⟨rfl, h.symm⟩
 | some y =>
  unfold bound at h
  split at h
  ·rename_i heq; cases heq
  ·rename_i y' heq
   cases heq
   have h1 := hr y rfl
   split at h
   ·rename_i k m hx
    simp at h; subst h
    rw [hx] at h1
    simp only [RelV, Rel] at h1
    exact .inr ⟨y, k, rfl, h1⟩
   ·simp at h
theorem fill_rows (es : Nat) : ∀ (ps : List Value) (i : Nat) (cs : List Value), (∀ p ∈ ps, p.cells.size = es) → (i + ps.length) * es ≤ cs.length →
  Instr.fill (fun i => some (i * es, es)) cs.toArray ((ps.zipIdx i).map fun x => (x.2, x.1)) = some (cs.take (i * es) ++ ps.flatMap (·.cells.toList) ++ cs.drop ((i + ps.length) * es)).toArray
 | [], i, cs, _, _ => by simp [Instr.fill]
 | p :: ps, i, cs, hp, hl => by
  have h1 := hp p (by simp)
  simp only [List.length_cons] at hl
  have hmul : (i + (ps.length + 1)) * es = i * es + es + ps.length * es := by rw [Nat.add_mul, Nat.add_mul]; omega
  simp only [List.zipIdx_cons, List.map_cons, Instr.fill]
  rw [if_neg (by simp [h1]; omega)]
  have hf := fold_set p.cells.toList cs.toArray (i * es) 0 (by simp [h1]; omega)
  simp only [Nat.add_zero] at hf
  have e : (p.cells.zipIdx.foldl (fun cs (x : Value × Nat) => cs.setIfInBounds (i * es + x.2) x.1) cs.toArray) = (cs.take (i * es) ++ p.cells.toList ++ cs.drop (i * es + es)).toArray := by
   apply Array.ext'
   rw [← Array.foldl_toList, Array.toList_zipIdx, hf]
   simp [h1]
  have e' : Array.foldl (fun cs (x : Value × Nat) => match x with | (c, j) => cs.setIfInBounds (i * es + j) c) cs.toArray p.cells.zipIdx = (cs.take (i * es) ++ p.cells.toList ++ cs.drop (i * es + es)).toArray := e
  rw [e']
  have hlen : p.cells.toList.length = es := by simpa using h1
  have ih := fill_rows es ps (i + 1) (cs.take (i * es) ++ p.cells.toList ++ cs.drop (i * es + es)) (fun q hq => hp q (by simp [hq])) (by
   simp only [List.length_append, List.length_take, List.length_drop, hlen]
   have : (i + 1 + ps.length) * es = i * es + es + ps.length * es := by rw [Nat.add_mul, Nat.add_mul]; omega
   omega)
  rw [ih]
  congr 2
  have e2 : (i + 1) * es = i * es + es := by rw [Nat.add_mul]; omega
  have e3 : (i + 1 + ps.length) * es = i * es + es + ps.length * es := by rw [Nat.add_mul, Nat.add_mul]; omega
  have hA : (cs.take (i * es) ++ p.cells.toList).length = i * es + es := by simp only [List.length_append, List.length_take, hlen]; omega
  rw [List.length_cons, e2, e3, hmul]
  rw [List.take_append_of_le_length (by omega), List.take_of_length_le (by omega)]
  rw [List.drop_append, hA]
  rw [List.drop_of_length_le (by omega)]
  simp only [List.nil_append, List.drop_drop, List.flatMap_cons, List.append_assoc]
  congr 4
  omega
end
end Go.VM
namespace Go.VM
section
variable {A : Nat → Prop} {σ : Sig} {η : Nat → Value} {w : World} {P : Program} {T : Tab} {M : Mem}
theorem at_list {rd : Nat → Value → Prop} : ∀ {cs : List D} {o : Nat}, RelAt M rd o cs → ∃ vs : List Value, vs.length = cs.length ∧ (∀ (j : Nat) u, vs[j]? = some u → rd (o + j) u) ∧ (∀ u ∈ vs, u.oneCell' = true) ∧ RelAt M (fun j v => vs[j]? = some v) 0 cs
 | [], o, _ => ⟨[], rfl, by simp, by simp, by simp [RelAt]⟩
 | d :: cs, o, h => by
  simp only [RelAt] at h
  obtain ⟨h0, ⟨v, h1, h2⟩, h3⟩ := h
  obtain ⟨vs, e1, e2, e3, e4⟩ := at_list h3
  refine ⟨v :: vs, by simp [e1], fun j u hu => ?_, fun u hu => ?_, ?_⟩
  ·cases j with
   | zero => simp at hu; subst hu; exact h1
   | succ j => have := e2 j u (by simpa using hu); rwa [show o + 1 + j = o + (j + 1) by omega] at this
  ·cases hu with
   | head => exact one_of_rel h2 h0
   | tail _ h => exact e3 u h
  ·refine relAt_iff.2 fun i d' hd => ?_
   cases i with
   | zero => simp at hd; subst hd; exact ⟨h0, v, by simp, h2⟩
   | succ i =>
    obtain ⟨a, u, b, c⟩ := relAt_iff.1 e4 i d' (by simpa using hd)
    refine ⟨a, u, ?_, c⟩
    simp only [Nat.zero_add] at b ⊢
    simpa using b
theorem row_list {rd : Nat → Value → Prop} {es : Nat} : ∀ {l : List D} {o : Nat}, RelRow M rd es o l → ∃ vs : List Value, vs.length = l.length * es ∧ (∀ (j : Nat) u, vs[j]? = some u → rd (o + j) u) ∧ (∀ u ∈ vs, u.oneCell' = true) ∧ RelRow M (fun j v => vs[j]? = some v) es 0 l
 | [], o, _ => ⟨[], by simp, by simp, by simp, by simp [RelRow]⟩
 | d :: l, o, h => by
  simp only [RelRow, relE_iff] at h
  obtain ⟨⟨h0, h1⟩, h2⟩ := h
  obtain ⟨us, a1, a2, a3, a4⟩ := at_list h1
  obtain ⟨vs, b1, b2, b3, b4⟩ := row_list h2
  refine ⟨us ++ vs, by simp [a1, b1, h0, Nat.add_mul]; omega, fun j u hu => ?_, fun u hu => ?_, ?_⟩
  ·rw [List.getElem?_append] at hu
   split at hu
   ·exact a2 j u hu
   ·rename_i hj
    have := b2 _ u hu
    rwa [show o + es + (j - us.length) = o + j by omega] at this
  ·rcases List.mem_append.1 hu with h | h
   ·exact a3 u h
   ·exact b3 u h
  ·refine relRow_iff.2 fun i d' hd => ?_
   cases i with
   | zero =>
    simp at hd; subst hd
    refine ⟨h0, relAt_mono (fun _ _ _ h => h) (fun j v hv => ?_) (by simpa using a4)⟩
    rw [List.getElem?_append_left (List.getElem?_eq_some_iff.1 hv).1]; exact hv
   | succ i =>
    obtain ⟨c1, c2⟩ := relRow_iff.1 b4 i d' (by simpa using hd)
    refine ⟨c1, relAt_iff.2 fun j dj hj => ?_⟩
    obtain ⟨d1, v, d2, d3⟩ := relAt_iff.1 c2 j dj hj
    refine ⟨d1, v, ?_, d3⟩
    rw [List.getElem?_append_right (by rw [Nat.add_mul]; omega), ← d2]
    congr 1
    rw [Nat.add_mul]; omega
theorem row_append {es : Nat} {xs ys : List Value} {l k : List D} (hl : xs.length = l.length * es) (h : RelRow M (fun j v => xs[j]? = some v) es 0 l) (h' : RelRow M (fun j v => ys[j]? = some v) es 0 k) : RelRow M (fun j v => (xs ++ ys)[j]? = some v) es 0 (l ++ k) := by
 refine relRow_iff.2 fun i d hd => ?_
 rw [List.getElem?_append] at hd
 split at hd
 ·obtain ⟨c1, c2⟩ := relRow_iff.1 h i d hd
  refine ⟨c1, relAt_mono (fun _ _ _ h => h) (fun j v hv => ?_) c2⟩
  rw [List.getElem?_append_left (List.getElem?_eq_some_iff.1 hv).1]; exact hv
 ·rename_i hi
  obtain ⟨c1, c2⟩ := relRow_iff.1 h' _ d hd
  refine ⟨c1, relAt_iff.2 fun j dj hj => ?_⟩
  obtain ⟨d1, v, d2, d3⟩ := relAt_iff.1 c2 j dj hj
  refine ⟨d1, v, ?_, d3⟩
  have e : i * es = l.length * es + (i - l.length) * es := by rw [← Nat.add_mul]; congr 1; omega
  rw [List.getElem?_append_right (by omega), ← d2]
  congr 1
  omega
theorem elemInfo_eq (hT : TabOk P T) {t e : TypeId} {es by_ : Nat} (h : elemInfo T t = some (e, es, by_)) : ∃ i z, P.underlying t = some (.slice e) ∧ P.info? e = some i ∧ i.size = es ∧ i.bytes = by_ ∧ i.zero = some z ∧ z.cells.size = es := by
 unfold elemInfo at h
 split at h
 ·rename_i ti hti
  split at h
  ·rename_i e' htd
   split at h
   ·rename_i te hte
    simp at h
    obtain ⟨rfl, rfl, rfl⟩ := h
    obtain ⟨d, hu, hd⟩ := hT.under hti
    rw [htd] at hd
    cases d <;> simp only [TDOk] at hd
    subst hd
    obtain ⟨i, hi, h1, h2, z, h3, _, h4⟩ := (hT _ te hte).info
    exact ⟨i, z, hu, hi, h1, h2, h3, h4⟩
   ·simp at h
  ·simp at h
 ·simp at h
theorem append_own (hT : TabOk P T) {t e : TypeId} {es by_ : Nat} (he : elemInfo T t = some (e, es, by_)) (h0 : 0 < es) (ty : TypeId) {hv : Value} {n : Nat} {xs0 : List Value} (hown : w.ownsRow 0 e es hv n xs0) {base : Option Addr} {m cap : Nat} {news : List Value}
  (hl : news.length = m * es) (hcells : m = 0 ∨ ∃ b o, base = some ⟨b, o, none⟩ ∧ ∀ (j : Nat) u, news[j]? = some u → w.cell? ⟨b, o + j, none⟩ = some u) (h1 : ∀ u ∈ news, u.oneCell' = true) (hb : (n + m) * by_ ≤ 140737488355328) (hb1 : n + m ≤ 140737488355328) :
  ∃ v' w', (Builtin.append_ #[t, t] ty #[hv, .slice base m cap]).run P w = .ok v' w' ∧ w'.ownsRow 0 e es v' (n + m) (xs0 ++ news) ∧ w'.os = w.os ∧ w'.tape = w.tape ∧ w'.output = w.output ∧ w.heap.size ≤ w'.heap.size ∧
   (∀ b, b < w.heap.size → homeBlock hv ≠ some b → w'.heap[b]? = w.heap[b]?) ∧ (∀ b, homeBlock v' = some b → (homeBlock hv = some b ∨ w.heap.size ≤ b) ∧ b < w'.heap.size) ∧ (m = 0 → v' = hv) := by
 obtain ⟨i, z, hu, hi, hsz, hby, hz, hzs⟩ := elemInfo_eq hT he
 have hlenT : (xs0 ++ news).length = (n + m) * es := by rw [List.length_append, hown.1, hl, Nat.add_mul]
 have blk : ∀ {w : World} {v : Value} {k : Nat} {l : List Value}, w.ownsRow 0 e es v k l → ∀ b, homeBlock v = some b → b < w.heap.size := fun h b hb => by
  rcases h.2 with ⟨rfl, _⟩ | ⟨g, cap, cur, rfl, _, hg, _⟩
  ·simp [homeBlock] at hb
  ·simp [homeBlock] at hb; subst hb; exact (Array.getElem?_eq_some_iff.1 hg).1
 by_cases hm : m = 0
 ·subst hm
  have hnews : news = [] := List.eq_nil_of_length_eq_zero (by simpa using hl)
  subst hnews
  refine ⟨hv, w, ?_, by simpa using hown, rfl, rfl, rfl, Nat.le_refl _, fun _ _ _ => rfl, fun b hb => ⟨.inl hb, blk hown b hb⟩, fun _ => rfl⟩
  have hsl : ∃ a c, hv = .slice a n c ∧ n ≤ c := by
   rcases hown.2 with ⟨rfl, rfl⟩ | ⟨g, cap, cur, rfl, _, _, hc, _⟩
   ·exact ⟨none, 0, rfl, Nat.le_refl _⟩
   ·exact ⟨_, _, rfl, hc⟩
  obtain ⟨a, c, rfl, hnc⟩ := hsl
  cases base <;> cases a <;> simp [Builtin.append_, run_underlying hu, sizeOf, typeInfo, hi, Builtin.lenOf, hnc, Builtin.firstCells, loadCells, loadCellsFrom, storeCells]
 ·rcases hcells with h | ⟨sb, so, rfl, hcells⟩
  ·exact absurd h hm
  have hcells' : ∀ (j : Nat) u, news[j]? = some u → w.cell? (Addr.add ⟨sb, so, none⟩ j) = some u := fun j u h => by rw [addr_add]; exact hcells j u h
  have hl' : news.length = m * i.size := by rw [hsz]; exact hl
  have grown : ∀ (old : Nat) , old < n + m →
    (w.drew.alloc (.cells (xs0.toArray ++ news.toArray ++ Builtin.zeroCells z.cells (grownCap w (n + m) old e - (n + m))) e)).ownsRow 0 e es (.slice (some ⟨w.heap.size, 0, none⟩) (n + m) (grownCap w (n + m) old e)) (n + m) (xs0 ++ news) := by
   intro old ho
   have hge := grownCap_ge w (n + m) old e
   refine ⟨hlenT, .inr ⟨w.heap.size, _, _, rfl, Nat.zero_le _, heap_alloc_new w.drew _, hge, grownCap_le_maxLen w (n + m) old e (by unfold maxLen; omega), ?_, ?_⟩⟩
   ·simp only [Array.size_append, List.size_toArray, size_zeroCells, hzs, hown.1, hl, ← Nat.add_mul]
    congr 1
    omega
   ·simp only [Array.toList_append, List.append_assoc]
    rw [← List.append_assoc, ← hlenT]
    exact List.take_left
  rcases hown.2 with ⟨rfl, rfl⟩ | ⟨g, c, cur, rfl, hbg, hg, hnc, hcm, hcs, htake⟩
  ·have hx : xs0 = [] := List.eq_nil_of_length_eq_zero (by simpa using hown.1)
   subst hx
   have hr := run_append_nil (P := P) w t ty e i z hu hi hz ⟨sb, so, none⟩ m cap news hl' hcells' (by omega) (by omega) (by rw [hby]; simp only [Nat.zero_add] at hb; omega)
   have hgr := grown 0 (by omega)
   simp only [Nat.zero_add, List.nil_append, Array.empty_append] at hgr ⊢
   refine ⟨_, _, hr, hgr, rfl, rfl, rfl, by simp, fun b hb _ => Go.RowKit.Below.heap_alloc w.drew _ b hb, fun b hb => ?_, fun h => absurd h hm⟩
   simp [homeBlock] at hb; subst hb; simp
  ·by_cases hroom : n + m ≤ c
   ·have hfit : n * i.size + news.length ≤ cur.size := by rw [hl, hcs, hsz, ← Nat.add_mul]; exact Nat.mul_le_mul_right _ hroom
    have hr := run_append_room (P := P) w t ty e i hu hi g n c cur hg ⟨sb, so, none⟩ m cap news hl' hcells' h1 hroom hfit
    rw [hsz] at hr hfit
    have hlt : g < w.heap.size := (Array.getElem?_eq_some_iff.1 hg).1
    refine ⟨_, _, hr, ⟨hlenT, .inr ⟨g, c, _, rfl, hbg, setRow_heap w g cur _ e _ hg, hroom, hcm, ?_, ?_⟩⟩, rfl, rfl, rfl, by simp [World.setRow], fun b hb hne => setRow_other w g b _ (fun e => hne (by rw [e]; rfl)), fun b hb => ?_, fun h => absurd h hm⟩
    ·simp only [List.size_toArray, List.length_append, List.length_take, List.length_drop, Array.length_toList]
     omega
    ·rw [htake, ← hlenT]
     exact List.take_left
    ·simp [homeBlock] at hb; subst hb; exact ⟨.inl rfl, by simp [World.setRow, hlt]⟩
   ·have holds : ∀ j u, xs0[j]? = some u → w.cell? ((⟨g, 0, none⟩ : Addr).add j) = some u := hown.cells (g := g) rfl
    have hr := run_append_grow (P := P) w t ty e i z hu hi hz ⟨g, 0, none⟩ n c xs0 (by rw [hsz]; exact hown.1) holds ⟨sb, so, none⟩ m cap news hl' hcells' (by omega) (by omega) (growslice_fits (by omega) (by rw [hby]; exact hb))
    have hgr := grown c (by omega)
    refine ⟨_, _, hr, hgr, rfl, rfl, rfl, by simp, fun b hb _ => Go.RowKit.Below.heap_alloc w.drew _ b hb, fun b hb => ?_, fun h => absurd h hm⟩
    simp [homeBlock] at hb; subst hb; simp
theorem run_append {m0 : Nat} (hT : TabOk P T) (hs : SigRel A σ η w) {o : Oper} {r : Operand → V} {ρ : Operand → Value} (hr : ∀ x ∈ o.op.operands, RelV (mem A η σ w) σ η (r x) (ρ x)) {c : Call} {s x : Operand} {t e : TypeId} {k n es by_ : Nat} {l xs : List D}
  (h : o.op = .call c) (hc : c.callee = .builtin .append) (ha : c.args = #[s, x]) (ht : c.argTypes = #[t, t]) (hs' : r s = .osl k n) (hk : σ[k]? = some (.arr e es l)) (hn : l.length = n)
  {u : V} (hu : r x = u) (hx : Src σ es u xs) (he : elemInfo T t = some (e, es, by_)) (h0 : 0 < es) (hb : (n + xs.length) * by_ ≤ 140737488355328) (hb1 : n + xs.length ≤ 4294967296) :
  ∃ y w' η', (execOp ρ o).run P w = .ok (.value y) w' ∧ Nxt m0 A σ η w (.osl k (n + xs.length)) y (σ.set k (.arr e es (l ++ xs))) η' w' := by
 obtain ⟨dst, op, type, pos, after, guard⟩ := o
 simp only at h hr
 subst h
 have h1 := hr s (by simp [Op.operands, Call.operands, ha])
 have h2 := hr x (by simp [Op.operands, Call.operands, ha])
 rw [hs'] at h1
 rw [hu] at h2
 simp only [RelV] at h1
 obtain ⟨hkl, _, hall⟩ := h1
 have hse := (hall e es l hk).2 hn
 have ho := hs.objs k _ hk
 simp only [ObjRel] at ho
 obtain ⟨hbl, xs0, hown, hone, hrow⟩ := ho
 have hsrc' : ∃ (base : Option Addr) (cap : Nat) (news : List Value), ρ x = .slice base xs.length cap ∧ news.length = xs.length * es ∧ (xs.length = 0 ∨ ∃ b o, base = some ⟨b, o, none⟩ ∧ ∀ (j : Nat) u, news[j]? = some u → w.cell? ⟨b, o + j, none⟩ = some u) ∧ (∀ u ∈ news, u.oneCell' = true) ∧
   RelRow (mem A η σ w) (fun j v => news[j]? = some v) es 0 xs := by
  cases hx with
  | nil => simp only [RelV, Rel] at h2; exact ⟨none, 0, [], h2, by simp, .inl rfl, by simp, by simp [RelRow]⟩
  | empt => simp only [RelV, Rel] at h2; obtain ⟨a, c, e, _⟩ := h2; exact ⟨some a, c, [], e, by simp, .inl rfl, by simp, by simp [RelRow]⟩
  | list =>
   simp only [RelV, Rel] at h2
   obtain ⟨base, cap, ex, hcap, hsrc⟩ := h2
   rcases hsrc with ⟨rfl, _⟩ | ⟨b, o, rfl, hrow⟩
   ·exact ⟨base, cap, [], ex, by simp, .inl rfl, by simp, by simp [RelRow]⟩
   ·obtain ⟨news, e1, e2, e3, e4⟩ := row_list hrow
    exact ⟨_, cap, news, ex, e1, .inr ⟨b, o, rfl, fun j u hu => (e2 j u hu).2.2⟩, e3, e4⟩
  | @osl k2 n2 e2 xs hk2 hn2 =>
   simp only [RelV] at h2
   obtain ⟨_, _, hall2⟩ := h2
   have hse2 := (hall2 e2 es xs hk2).2 hn2
   have ho2 := hs.objs k2 _ hk2
   simp only [ObjRel] at ho2
   obtain ⟨hbl2, ys, hown2, hone2, hrow2⟩ := ho2
   rcases hown2.2 with ⟨q1, q2⟩ | ⟨g, c2, cur, q1, _, q3, q4, _, _, q7⟩
   ·have : ys = [] := List.eq_nil_of_length_eq_zero (by rw [hown2.1, q2]; simp)
    exact ⟨none, 0, ys, by rw [hse2, q1, q2], hown2.1, .inl q2, hone2, hrow2⟩
   ·refine ⟨some ⟨g, 0, none⟩, c2, ys, by rw [hse2, q1], hown2.1, .inr ⟨g, 0, rfl, fun j u hu => ?_⟩, hone2, hrow2⟩
    rw [Nat.zero_add]
    rw [← q7, List.getElem?_take] at hu
    split at hu
    ·simp only [World.cell?, q3]; simpa using hu
    ·simp at hu
 obtain ⟨base, cap, news, ex, hsrc'⟩ := hsrc'
 obtain ⟨n1, n2, n3, n4⟩ := hsrc'
 rw [hn] at hown
 obtain ⟨v', w', hrun, hown', e1, e2, e3, e4, e5, e6, e7⟩ := append_own (P := P) hT he h0 type hown (cap := cap) n1 n2 n3 hb (by omega)
 refine ⟨v', w', setη η k v', ?_, ?_⟩
 ·have : (builtin .append c.argTypes type (c.args.map fun | .const _ => true | _ => false) (c.args.map ρ)).run P w = .ok (.value v') w' := by
   simp only [builtin, ht, ha, Sem.run_bind]
   have e : (#[s, x] : Array Operand).map ρ = #[η k, .slice base xs.length cap] := by simp [hse, ex]
   rw [e, hrun]; rfl
  simp only [execOp, resolve, hc, Sem.run_bind, Sem.run_pure, Result.andThen_ok, invoke]
  exact this
 ·have hnotp : (∀ a, η k ≠ .pointer a) ∧ (∀ r, η k ≠ .map r) := by
   rcases hown.2 with ⟨e, _⟩ | ⟨g, c, cur, e, _⟩ <;> rw [e] <;> simp
  have hsl : ∃ b c, v' = .slice b (n + xs.length) c := by
   rcases hown'.2 with ⟨e, e0⟩ | ⟨g, c, cur, e, _⟩
   ·exact ⟨none, 0, by rw [e, e0]⟩
   ·exact ⟨_, _, e⟩
  refine Nxt.put hs hk (by simp) (by simp) e1 e2 e3 e4 e5 e6 ?_ (fun cs hc => by simp at hc) (fun l hl => by simp at hl) (fun e es l hl => by cases hl; exact ⟨_, rfl⟩) (fun hkeep => ?_) (fun _ => ?_)
  ·by_cases hm : xs.length = 0
   ·left
    refine ⟨by simp [setη, e7 hm], fun e' es' l' hl' => ?_⟩
    rw [set_get hkl] at hl'
    simp at hl'
    obtain ⟨rfl, rfl, rfl⟩ := hl'
    exact ⟨l, hk, by simp [hm]⟩
   ·right
    exact .inl ⟨e, es, l, l ++ xs, hk, by rw [set_get hkl]; simp, by simp; omega, hnotp.1, hnotp.2⟩
  ·simp only [ObjRel]
   refine ⟨by simp; omega, xs0 ++ news, ?_, ?_, ?_⟩
   ·have : setη η k v' k = v' := by simp [setη]
    rw [this, List.length_append, hn]; exact hown'
   ·intro u hu; rcases List.mem_append.1 hu with h | h
    ·exact hone u h
    ·exact n3 u h
   ·exact row_append (by rw [hown.1, hn]) (relRow_mono hkeep.hm (fun _ _ h => h) hrow) (relRow_mono hkeep.hm (fun _ _ h => h) n4)
  ·simp only [RelV]
   refine ⟨by simpa using hkl, hsl, fun e' es' l' hl' => ?_⟩
   rw [set_get hkl] at hl'
   simp at hl'
   obtain ⟨rfl, rfl, rfl⟩ := hl'
   exact ⟨by simp [hn], fun _ => by simp [setη]⟩
theorem own_row {e : TypeId} {es n : Nat} {hv : Value} {xs : List Value} (h : w.ownsRow 0 e es hv n xs) (hn : 0 < n) : ∃ g cap cur, hv = .slice (some ⟨g, 0, none⟩) n cap ∧ w.heap[g]? = some (.cells cur e (0, 0)) ∧ n ≤ cap ∧ cur.size = cap * es ∧ cur.toList.take (n * es) = xs ∧ cap ≤ maxLen := by
 rcases h.2 with ⟨_, h0⟩ | ⟨g, cap, cur, e1, _, e3, e4, e5, e6, e7⟩
 ·omega
 ·exact ⟨g, cap, cur, e1, e3, e4, e6, e7, e5⟩
theorem own_cell {e : TypeId} {es n g cap : Nat} {cur : Array Value} {xs : List Value} (hg : w.heap[g]? = some (.cells cur e (0, 0))) (ht : cur.toList.take (n * es) = xs) {j : Nat} {u : Value} (hu : xs[j]? = some u) : w.cell? ⟨g, j, none⟩ = some u := by
 rw [← ht, List.getElem?_take] at hu
 split at hu
 ·simp only [World.cell?, hg]; simpa using hu
 ·simp at hu
theorem run_indexO (hT : TabOk P T) (hs : SigRel A σ η w) {o : Oper} {r : Operand → V} {ρ : Operand → Value} (hr : ∀ x ∈ o.op.operands, RelV (mem A η σ w) σ η (r x) (ρ x)) {t e : TypeId} {x i : Operand} {k n : Nat} {kk : IntKind} {j : Int} {es : Nat} {l : List D}
  (h : o.op = .indexAddr t x i) (hx : r x = .osl k n) (hi : r i = .d (.lit (.int kk j))) (hk : σ[k]? = some (.arr e es l)) (hn : l.length = n) (he : elemSize T t = some es) (h0 : 0 ≤ j) (h1 : j < n) :
  ∃ y, (execOp ρ o).run P w = .ok (.value y) w ∧ RelV (mem A η σ w) σ η (.optr k n j.toNat 0) y := by
 obtain ⟨dst, op, type, pos, after, guard⟩ := o
 simp only at h hr
 subst h
 have hx1 := hr x (by simp [Op.operands])
 have hi1 := hr i (by simp [Op.operands])
 rw [hx] at hx1
 rw [hi] at hi1
 simp only [RelV, Rel] at hx1 hi1
 obtain ⟨hkl, _, hall⟩ := hx1
 have hse := (hall e es l hk).2 hn
 have ho := hs.objs k _ hk
 simp only [ObjRel] at ho
 obtain ⟨hbl, xs, hown, _, _⟩ := ho
 rw [hn] at hown
 obtain ⟨g, cap, cur, e1, e2, e3, _⟩ := own_row hown (by omega)
 obtain ⟨e', te, hu, hte, hsz⟩ : ∃ e te, P.underlying t = some (.slice e) ∧ T e = some te ∧ te.size = es := by
  unfold elemSize at he
  split at he
  ·rename_i ti hti
   split at he
   ·rename_i e' htd
    split at he
    ·rename_i te hte
     simp at he
     obtain ⟨d, hu, hd⟩ := hT.under hti
     rw [htd] at hd
     cases d <;> simp only [TDOk] at hd
     subst hd
     exact ⟨_, te, hu, hte, he⟩
    ·simp at he
   ·simp at he
  ·simp at he
 refine ⟨.pointer (some ⟨g, j.toNat * es, none⟩), ?_, ?_⟩
 ·simp [execOp, Instr.indexAt, hse, e1, hi1, asIntOf, run_underlying hu, h0, h1, run_sizeOf' hT hte, hsz, addr_add]
 ·simp only [RelV]
  refine ⟨hkl, ⟨_, _, rfl⟩, fun e' es' l' hl' => ?_⟩
  rw [hk] at hl'; cases hl'
  exact ⟨by omega, fun _ => ⟨g, by rw [e1]; rfl, by simp⟩⟩
theorem optr_at (hs : SigRel A σ η w) {k n i off es : Nat} {e : TypeId} {l : List D} {d : D} {v : Value} (hv : RelV (mem A η σ w) σ η (.optr k n i off) v) (hk : σ[k]? = some (.arr e es l)) (hn : l.length = n) (hd : l[i]? = some d) :
  ∃ g cap cur xs, η k = .slice (some ⟨g, 0, none⟩) n cap ∧ v = .pointer (some ⟨g, i * es + off, none⟩) ∧ w.heap[g]? = some (.cells cur e (0, 0)) ∧ cur.toList.take (n * es) = xs ∧ xs.length = n * es ∧ (∀ x ∈ xs, x.oneCell' = true) ∧ RelRow (mem A η σ w) (fun o v => xs[o]? = some v) es 0 l ∧ d.cells.length = es ∧ i < n ∧
   n ≤ cap ∧ cur.size = cap * es ∧ cap ≤ maxLen := by
 have hin : i < n := by rw [← hn]; exact (List.getElem?_eq_some_iff.1 hd).1
 simp only [RelV] at hv
 obtain ⟨hkl, _, hall⟩ := hv
 obtain ⟨b, hb, ev⟩ := (hall e es l hk).2 hn
 have ho := hs.objs k _ hk
 simp only [ObjRel] at ho
 obtain ⟨hbl, xs, hown, hone, hrow⟩ := ho
 rw [hn] at hown
 obtain ⟨g, cap, cur, e1, e2, e3, e4, e5, e6⟩ := own_row hown (by omega)
 rw [e1] at hb
 simp [homeBlock] at hb
 subst hb
 exact ⟨g, cap, cur, xs, e1, ev, e2, e5, hown.1, hone, hrow, (relRow_iff.1 hrow i d hd).1, hin, e3, e4, e6⟩
theorem run_loadO (hT : TabOk P T) (hs : SigRel A σ η w) {o : Oper} {r : Operand → V} {ρ : Operand → Value} (hr : ∀ x ∈ o.op.operands, RelV (mem A η σ w) σ η (r x) (ρ x)) {t e : TypeId} {x : Operand} {k n i off es : Nat} {l : List D} {d y : D} {ti : TI}
  (h : o.op = .load t x) (hx : r x = .optr k n i off) (hk : σ[k]? = some (.arr e es l)) (hn : l.length = n) (hd : l[i]? = some d) (hTt : T t = some ti) (hy : partD ti d.cells off = some y) :
  ∃ v, (execOp ρ o).run P w = .ok (.value v) w ∧ RelV (mem A η σ w) σ η (.d y) v := by
 obtain ⟨dst, op, type, pos, after, guard⟩ := o
 simp only at h hr
 subst h
 have hx1 := hr x (by simp [Op.operands])
 rw [hx] at hx1
 obtain ⟨g, cap, cur, xs, e1, ev, e2, e3, e4, e5, e6, e7, e8, _⟩ := optr_at hs hx1 hk hn hd
 obtain ⟨_, hat⟩ := relRow_iff.1 e6 i d hd
 obtain ⟨vs, v1, v2, v3, v4⟩ := at_list (M := mem A η σ w) hat
 have hcell : ∀ (j : Nat) u, vs[j]? = some u → w.cell? ⟨g, i * es + j, none⟩ = some u := fun j u hu => by
  have := v2 j u hu
  rw [Nat.zero_add] at this
  exact own_cell (cap := cap) e2 e3 this
 have hrc : RelC (mem A η σ w) d.cells vs := relC_iff.2 ⟨v1.symm, fun j dj u hdj hu => by
  obtain ⟨a, u', b, c⟩ := relAt_iff.1 v4 j dj hdj
  rw [Nat.zero_add, hu] at b
  cases b
  exact ⟨a, c⟩⟩
 have hy := partD_old hy
 unfold partD0 at hy
 split at hy
 ·rename_i ha
  split at hy
  ·rename_i hsz
   simp at hy; subst hy
   have := run_loadVar_cells hT hTt ⟨g, i * es + off, none⟩ ((vs.drop off).take ti.size) w (fun j u hu => by
    rw [addr_add]
    rw [List.getElem?_take] at hu
    split at hu
    ·rw [List.getElem?_drop] at hu; have := hcell _ _ hu; rwa [show i * es + (off + j) = i * es + off + j by omega] at this
    ·simp at hu) (by simp; omega) (by simp [ha])
   rw [ha] at this
   refine ⟨.agg ((vs.drop off).take ti.size).toArray, ?_, ?_⟩
   ·simp only [execOp, Instr.loadAt, ev, Instr.sureAddr, pure_bind, Sem.run_bind, this, Result.andThen_ok]
    rfl
   ·simp only [RelV, Rel]
    exact ⟨_, rfl, by
     refine relC_iff.2 ⟨by simp [(relC_iff.1 hrc).1], fun j dj u hdj hu => ?_⟩
     simp only [List.getElem?_take, List.getElem?_drop] at hdj hu
     split at hdj
     ·rename_i hi; rw [if_pos hi] at hu; exact (relC_iff.1 hrc).2 _ _ _ hdj hu
     ·simp at hdj⟩
  ·simp at hy
 ·rename_i ha
  have hlt : off < d.cells.length := (List.getElem?_eq_some_iff.1 hy).1
  have hgu : vs[off]? = some (vs[off]'(by omega)) := List.getElem?_eq_getElem (by omega)
  refine ⟨vs[off]'(by omega), ?_, by simp only [RelV]; exact ((relC_iff.1 hrc).2 off y _ hy hgu).2⟩
  simp [execOp, Instr.loadAt, ev, Instr.sureAddr, loadVar, run_isAgg hT hTt, ha, hcell _ _ hgu]
theorem run_storeO {m0 : Nat} (hT : TabOk P T) (hs : SigRel A σ η w) {o : Oper} {r : Operand → V} {ρ : Operand → Value} (hr : ∀ x ∈ o.op.operands, RelV (mem A η σ w) σ η (r x) (ρ x)) {t e : TypeId} {a x : Operand} {k n i off es : Nat} {l : List D} {d y : D} {ti : TI}
  (h : o.op = .store t a x) (ha : r a = .optr k n i off) (hk : σ[k]? = some (.arr e es l)) (hn : l.length = n) (hd : l[i]? = some d) (hTt : T t = some ti) (hx : r x = .d y)
  (hw : (V.d y).whole = true) (hl : y.cells.length = ti.size) (ho : off + ti.size ≤ d.cells.length) (hput : (D.put d off y.cells).cells = d.cells.take off ++ y.cells ++ d.cells.drop (off + y.cells.length)) :
  ∃ w' η', (execOp ρ o).run P w = .ok .skip w' ∧ ∀ z, Nxt m0 A σ η w .any z (σ.set k (.arr e es (l.set i (D.put d off y.cells)))) η' w' := by
 obtain ⟨dst, op, type, pos, after, guard⟩ := o
 simp only at h hr
 subst h
 have ha1 := hr a (by simp [Op.operands])
 have hx1 := hr x (by simp [Op.operands])
 rw [ha] at ha1
 rw [hx] at hx1
 obtain ⟨g, cap, cur, xs, e1, ev, e2, e3, e4, e5, e6, e7, e8, e9, e10, e11⟩ := optr_at hs ha1 hk hn hd
 have hkl : k < σ.length := (List.getElem?_eq_some_iff.1 hk).1
 have hyc := relV_cells hx1 hw
 simp only [V.cells] at hyc
 have hyl : (ρ x).cells.toList.length = ti.size := by have := relVC_length hyc; simp at this ⊢; omega
 have hnes : n * es ≤ cur.size := by rw [e10]; exact Nat.mul_le_mul_right _ e9
 have hie : i * es + es ≤ n * es := by rw [← Nat.succ_mul]; exact Nat.mul_le_mul_right _ e8
 have hstore := run_storeCells_at P g (i * es + off) e (ρ x).cells.toList 0 cur w e2 (by rw [hyl]; omega) (relVC_one hyc)
 simp only [Nat.add_zero] at hstore
 rw [hyl] at hstore
 refine ⟨w.setRow g (cur.toList.take (i * es + off) ++ (ρ x).cells.toList ++ cur.toList.drop (i * es + off + ti.size)).toArray, setη η k (η k), ?_, fun z => ?_⟩
 ·have hsz : (ρ x).cells.size = ti.size := by simpa using hyl
  simp only [execOp, Instr.storeAt, ev, Instr.sureAddr, pure_bind, storeVar, Sem.run_bind, run_sizeOf' hT hTt, Result.andThen_ok]
  rw [if_neg (by simp [hsz])]
  simp only [Sem.run_bind, Sem.run_pure, Result.andThen_ok, hstore]
 ·have hlt : g < w.heap.size := (Array.getElem?_eq_some_iff.1 e2).1
  refine Nxt.put hs hk (by simp) (by simp) (by rfl) (by rfl) (by rfl) (by simp [World.setRow]) (fun b hb hne => setRow_other w g b _ (fun e => hne (by rw [e1, e]; rfl))) (fun b hb => ⟨.inl hb, by rw [e1] at hb; simp [homeBlock] at hb; subst hb; simp [World.setRow, hlt]⟩)
   (.inl ⟨by simp [setη], fun e' es' l' hl' => ?_⟩) (fun cs hc => by simp at hc) (fun l hl => by simp at hl) (fun e es l hl => by cases hl; exact ⟨_, rfl⟩) (fun hkeep => ?_) (fun _ => by simp only [RelV])
  ·rw [set_get hkl] at hl'
   simp at hl'
   obtain ⟨rfl, rfl, rfl⟩ := hl'
   exact ⟨l, hk, by simp⟩
  ·simp only [ObjRel]
   have hcur2 : cur.toList.length = cur.size := by simp
   have hx2 : (cur.toList.take (i * es + off) ++ (ρ x).cells.toList ++ cur.toList.drop (i * es + off + ti.size)).take (n * es) = xs.take (i * es + off) ++ (ρ x).cells.toList ++ xs.drop (i * es + off + ti.size) := by
    rw [← e3]
    have hL : (cur.toList.take (i * es + off) ++ (ρ x).cells.toList).length = i * es + off + ti.size := by simp [hyl]; omega
    rw [List.take_append, hL, List.take_of_length_le (by omega)]
    rw [List.take_take, Nat.min_eq_left (by omega), List.drop_take]
   refine ⟨by simp only [List.length_set]; have := hs.objs k _ hk; simp only [ObjRel] at this; exact this.1, xs.take (i * es + off) ++ (ρ x).cells.toList ++ xs.drop (i * es + off + ti.size), ?_, ?_, ?_⟩
   ·have : setη η k (η k) k = η k := by simp [setη]
    rw [this]
    refine ⟨by simp [e4, hyl, hn]; omega, .inr ⟨g, cap, _, by rw [e1]; simp [hn], Nat.zero_le _, setRow_heap w g cur _ e _ e2, by simp [hn]; exact e9, e11, by simp [hyl]; omega, ?_⟩⟩
    simp only [List.length_set, hn]
    exact hx2
   ·intro u hu
    rcases List.mem_append.1 hu with hu | hu
    ·rcases List.mem_append.1 hu with hu | hu
     ·exact e5 u (List.mem_of_mem_take hu)
     ·exact relVC_one hyc u hu
    ·exact e5 u (List.mem_of_mem_drop hu)
   ·refine relRow_iff.2 fun j dj hj => ?_
    have hrow' := relRow_mono hkeep.hm (fun _ _ h => h) e6
    have hcellsY := relVC_keep hkeep hyc
    have rd : ∀ (q : Nat), (q < i * es + off ∨ i * es + off + ti.size ≤ q) → q < n * es → (xs.take (i * es + off) ++ (ρ x).cells.toList ++ xs.drop (i * es + off + ti.size))[q]? = xs[q]? := by
     intro q hq hqn
     rcases hq with hq | hq
     ·rw [List.append_assoc, List.getElem?_append_left (by simp; omega), List.getElem?_take, if_pos hq]
     ·have hL : (xs.take (i * es + off) ++ (ρ x).cells.toList).length = i * es + off + ti.size := by simp [hyl]; omega
      rw [List.getElem?_append_right (by omega), hL, List.getElem?_drop]
      congr 1; omega
    have rdm : ∀ (q : Nat), q < ti.size → (xs.take (i * es + off) ++ (ρ x).cells.toList ++ xs.drop (i * es + off + ti.size))[i * es + off + q]? = (ρ x).cells.toList[q]? := by
     intro q hq
     have hL : (xs.take (i * es + off)).length = i * es + off := by simp; omega
     rw [List.getElem?_append_left (by rw [List.length_append, hL, hyl]; omega), List.getElem?_append_right (by omega), hL]
     congr 1; omega
    rw [List.getElem?_set] at hj
    split at hj
    ·rename_i hji
     subst hji
     split at hj
     ·simp at hj; subst hj
      refine ⟨by rw [hput]; simp [e7, hl]; omega, relAt_iff.2 fun q dq hq => ?_⟩
      rw [hput] at hq
      obtain ⟨c1, c2⟩ := relRow_iff.1 hrow' i d hd
      by_cases h1 : q < off
      ·rw [List.append_assoc, List.getElem?_append_left (by simp; omega), List.getElem?_take, if_pos h1] at hq
       obtain ⟨a1, u, a2, a3⟩ := relAt_iff.1 c2 q dq hq
       refine ⟨a1, u, ?_, a3⟩
       simp only [Nat.zero_add] at a2 ⊢
       rw [rd _ (.inl (by omega)) (by omega)]; exact a2
      ·by_cases h2 : q < off + ti.size
       ·have hL : (d.cells.take off).length = off := by simp; omega
        rw [List.getElem?_append_left (by rw [List.length_append, hL, hl]; omega), List.getElem?_append_right (by omega), hL] at hq
        have hq2 : (y.cells.map V.d)[q - off]? = some (.d dq) := by simp [hq]
        obtain ⟨u, u1, u2, u3⟩ := relVC_get hcellsY hq2
        simp only [RelV] at u3
        refine ⟨one_of_cell u3 u2, u, ?_, u3⟩
        simp only [Nat.zero_add]
        have := rdm (q - off) (by omega)
        rw [show i * es + off + (q - off) = i * es + q by omega] at this
        rw [this]; exact u1
       ·have hL : (d.cells.take off ++ y.cells).length = off + ti.size := by simp [hl]; omega
        rw [List.getElem?_append_right (by omega), hL, List.getElem?_drop] at hq
        rw [hl, show off + ti.size + (q - (off + ti.size)) = q by omega] at hq
        have hql : q < es := by rw [← e7]; exact (List.getElem?_eq_some_iff.1 hq).1
        obtain ⟨a1, u, a2, a3⟩ := relAt_iff.1 c2 q dq hq
        refine ⟨a1, u, ?_, a3⟩
        simp only [Nat.zero_add] at a2 ⊢
        rw [rd _ (.inr (by omega)) (by omega)]; exact a2
     ·simp at hj
    ·rename_i hji
     obtain ⟨c1, c2⟩ := relRow_iff.1 hrow' j dj hj
     have hjn : j < n := by rw [← hn]; exact (List.getElem?_eq_some_iff.1 hj).1
     have hje : j * es + es ≤ n * es := by rw [← Nat.succ_mul]; exact Nat.mul_le_mul_right _ hjn
     refine ⟨c1, relAt_iff.2 fun q dq hq => ?_⟩
     obtain ⟨a1, u, a2, a3⟩ := relAt_iff.1 c2 q dq hq
     have hql : q < es := by rw [← c1]; exact (List.getElem?_eq_some_iff.1 hq).1
     refine ⟨a1, u, ?_, a3⟩
     simp only [Nat.zero_add] at a2 ⊢
     rw [rd _ ?_ (by omega)]
     ·exact a2
     ·rcases Nat.lt_or_gt_of_ne hji with h | h
      ·right
       have : i * es + es ≤ j * es := by rw [← Nat.succ_mul]; exact Nat.mul_le_mul_right _ h
       omega
      ·left
       have : j * es + es ≤ i * es := by rw [← Nat.succ_mul]; exact Nat.mul_le_mul_right _ h
       omega
theorem run_buildS (hT : TabOk P T) {t e : TypeId} {n es by_ : Nat} {parts : Array (Nat × Operand)} {ev_ : Operand → Value} {ds : List D} (he : elemInfo T t = some (e, es, by_)) (h0 : 0 < es) (hn : n * es ≤ 16777216) (hp : parts.toList.map (·.1) = List.range n)
  (hvl : RelL M ds (parts.toList.map fun p => ev_ p.2)) (hsz : ∀ d ∈ ds, d.cells.length = es ∧ (V.d d).whole = true) (w : World) :
  ∃ cells : List Value, (Instr.buildSlice t n (parts.map fun (x : Nat × Operand) => (x.1, ev_ x.2))).run P w = .ok (.slice (some ⟨w.heap.size, 0, none⟩) n n) (w.alloc (.cells cells.toArray e)) ∧ cells.length = n * es ∧ (∀ u ∈ cells, u.oneCell' = true) ∧
   RelRow M (fun j v => cells[j]? = some v) es 0 ds := by
 obtain ⟨ie, z, hu, hie, hisz, _, hz, hzs⟩ := elemInfo_eq hT he
 obtain ⟨hlen, hget⟩ := relL_iff.1 hvl
 have hlp : parts.toList.length = n := by have := congrArg List.length hp; simpa using this
 have hdl : ds.length = n := by rw [hlen]; simpa using hlp
 have hcellsR : ∀ (i : Nat) d p, ds[i]? = some d → (parts.toList.map fun p => ev_ p.2)[i]? = some p → RelC M d.cells p.cells.toList := fun i d p hd hp' =>
  rel_cells (hget i d p hd hp') (fun ds' e => by have := (hsz d (List.mem_of_getElem? hd)).2; rw [e] at this; simp [V.whole] at this) (fun u e => by have := (hsz d (List.mem_of_getElem? hd)).2; rw [e] at this; simpa [V.whole] using this)
 have hcells : ∀ p ∈ parts.toList.map (fun p => ev_ p.2), p.cells.size = es := by
  intro p hpm
  obtain ⟨i, hi, hpi⟩ := List.getElem_of_mem hpm
  have hgi : (parts.toList.map fun p => ev_ p.2)[i]? = some p := by rw [List.getElem?_eq_getElem hi, hpi]
  have hdi : i < ds.length := by omega
  have h6 := (relC_iff.1 (hcellsR i _ p (List.getElem?_eq_getElem hdi) hgi)).1
  rw [(hsz _ (List.getElem_mem hdi)).1] at h6
  simpa using h6.symm
 have hparts : (parts.map fun (x : Nat × Operand) => (x.1, ev_ x.2)).toList = ((parts.toList.map fun p => ev_ p.2).zipIdx 0).map fun x => (x.2, x.1) := by
  apply List.ext_getElem?
  intro i
  simp only [Array.toList_map, List.getElem?_map, List.getElem?_zipIdx, Nat.zero_add, Option.map_map]
  cases hpi : parts.toList[i]? with
  | none => simp
  | some p =>
   have := congrArg (·[i]?) hp
   simp only [List.getElem?_map, hpi, Option.map_some] at this
   have hil : i < n := by rw [← hlp]; exact (List.getElem?_eq_some_iff.1 hpi).1
   rw [List.getElem?_range hil] at this
   simp at this
   simp [this]
 have hnes : ¬ n * es = 0 ∨ n = 0 := by
  cases n with
  | zero => exact .inr rfl
  | succ n => left; exact Nat.ne_of_gt (Nat.mul_pos (by omega) h0)
 have hflatlen : ∀ l : List Value, (∀ p ∈ l, p.cells.size = es) → (l.flatMap (·.cells.toList)).length = l.length * es := by
  intro l
  induction l with
  | nil => intro _; simp
  | cons p l ih => intro h; simp only [List.flatMap_cons, List.length_append, List.length_cons, ih (fun q hq => h q (by simp [hq]))]; have := h p (by simp); simp [this, Nat.add_mul]; omega
 have hflat : ∀ (l : List Value) (i c : Nat) (hi : i < l.length) (hc : c < (l[i]).cells.toList.length), (∀ p ∈ l, p.cells.size = es) → (l.flatMap (·.cells.toList))[i * es + c]? = some ((l[i]).cells.toList[c]) := by
  intro l
  induction l with
  | nil => intro i c hi; simp at hi
  | cons p l ih =>
   intro i c hi hc hall
   simp only [List.flatMap_cons]
   have hpl : p.cells.toList.length = es := by simpa using hall p (by simp)
   cases i with
   | zero =>
    simp only [Nat.zero_mul, Nat.zero_add, List.getElem_cons_zero] at hc ⊢
    rw [List.getElem?_append_left hc, List.getElem?_eq_getElem hc]
   | succ i =>
    have e2 : (i + 1) * es + c = es + (i * es + c) := by rw [Nat.add_mul]; omega
    rw [e2, List.getElem?_append_right (by omega), hpl, Nat.add_sub_cancel_left]
    simp only [List.getElem_cons_succ] at hc ⊢
    exact ih i c (by simpa using hi) hc (fun p hp => hall p (by simp [hp]))
 refine ⟨(parts.toList.map fun p => ev_ p.2).flatMap (·.cells.toList), ?_, by rw [hflatlen _ hcells]; simp [show parts.size = n by simpa using hlp], ?_, ?_⟩
 ·rcases hnes with hne | rfl
  ·refine run_buildSlice w t e n _ _ ie z hu hie hz (by rw [hisz]; omega) (by rw [hisz]; exact hne) ?_
   rw [hparts, hisz]
   have := fill_rows es (parts.toList.map fun p => ev_ p.2) 0 (((List.range (n * es)).map (z.cells[· % z.cells.size]!))) hcells (by simp; rw [show parts.size = n by simpa using hlp]; omega)
   simp only [Nat.zero_mul, List.take_zero, List.nil_append, Nat.zero_add, List.length_map, hlp] at this
   rw [List.drop_of_length_le (by simp)] at this
   simp only [List.append_nil] at this
   rw [← this]
   congr 1
   apply Array.ext'
   simp
  ·have hp0 : parts.toList = [] := List.eq_nil_of_length_eq_zero hlp
   have hp1 : parts = #[] := by apply Array.ext'; simpa using hp0
   subst hp1
   simp [Instr.buildSlice, run_underlying hu, sizeOf, typeInfo, hie, Instr.fill, newRow]
   have e0 : Array.range 0 = #[] := by apply Array.ext'; simp
   rw [e0, Array.map_empty]
 ·intro u hu'
  obtain ⟨p, hp1, hp2⟩ := List.mem_flatMap.1 hu'
  obtain ⟨i, hi, hpi⟩ := List.getElem_of_mem hp1
  have hgi : (parts.toList.map fun p => ev_ p.2)[i]? = some p := by rw [List.getElem?_eq_getElem hi, hpi]
  have hdi : i < ds.length := by omega
  have hrc := hcellsR i _ p (List.getElem?_eq_getElem hdi) hgi
  have := relVC_one (relVC_d (σ := []) (η := fun _ => undef) hrc)
  exact this u hp2
 ·refine relRow_iff.2 fun i d hdi => ?_
  have hil : i < ds.length := (List.getElem?_eq_some_iff.1 hdi).1
  have hdm : d ∈ ds := List.mem_of_getElem? hdi
  refine ⟨(hsz d hdm).1, relAt_iff.2 fun c dc hdc => ?_⟩
  have hgi : (parts.toList.map fun p => ev_ p.2)[i]? = some ((parts.toList.map fun p => ev_ p.2)[i]'(by omega)) := List.getElem?_eq_getElem (by omega)
  obtain ⟨h6, h7⟩ := relC_iff.1 (hcellsR i d _ hdi hgi)
  have hcl : c < d.cells.length := (List.getElem?_eq_some_iff.1 hdc).1
  have hcl' : c < ((parts.toList.map fun p => ev_ p.2)[i]'(by omega)).cells.toList.length := by omega
  obtain ⟨h8, h9⟩ := h7 c dc _ hdc (List.getElem?_eq_getElem hcl')
  refine ⟨h8, _, ?_, h9⟩
  rw [Nat.zero_add]
  exact hflat _ i c (by omega) hcl' hcells
theorem run_buildO {m : Nat} (hm : m ≤ σ.length) (hT : TabOk P T) (hs : SigRel A σ η w) {o : Oper} {r : Operand → V} {ρ : Operand → Value} (hr : ∀ x ∈ o.op.operands, RelV (mem A η σ w) σ η (r x) (ρ x)) {t e : TypeId} {len es by_ : Nat} {parts : Array (Nat × Operand)} {ds : List D}
  (h : o.op = .buildSlice t len parts) (he : elemInfo T t = some (e, es, by_)) (h0 : 0 < es) (hn : len * es ≤ 16777216) (hp : parts.toList.map (·.1) = List.range len)
  (hd : allD (parts.toList.map fun p => r p.2) = some ds) (hsz : ∀ d ∈ ds, d.cells.length = es ∧ (V.d d).whole = true) :
  ∃ x w' η', (execOp ρ o).run P w = .ok (.value x) w' ∧ Nxt m A σ η w (.osl σ.length len) x (σ ++ [.arr e es ds]) η' w' := by
 obtain ⟨dst, op, type, pos, after, guard⟩ := o
 simp only at h hr
 subst h
 have hvals : RelVL (mem A η σ w) σ η (parts.toList.map fun p => r p.2) (parts.toList.map fun p => ρ p.2) := relVL_map _ _ _ (fun p hp => hr p.2 (by
  simp only [Op.operands, List.mem_toArray, List.mem_map]; exact ⟨p, hp, rfl⟩))
 rw [allD_eq hd] at hvals
 obtain ⟨cells, hrunb, hcl, hone, hrow⟩ := run_buildS (P := P) hT he h0 hn hp (relVL_d.1 hvals) hsz w
 have hdl : ds.length = len := by
  have h1 := (relL_iff.1 (relVL_d.1 hvals)).1
  have h2 := congrArg List.length hp
  simp at h1 h2; omega
 have hlm : len ≤ maxLen := by
  unfold maxLen
  have : len * 1 ≤ len * es := Nat.mul_le_mul_left _ h0
  omega
 refine ⟨.slice (some ⟨w.heap.size, 0, none⟩) len len, w.alloc (.cells cells.toArray e), _, by simp [execOp, hrunb], Nxt.alloc hs (Ext.alloc w _) (by simp) (hv := .slice (some ⟨w.heap.size, 0, none⟩) len len) (fun b hb => by simp [homeBlock] at hb; subst hb; simp) (fun hk => ?_) ?_ hm⟩
 ·simp only [ObjRel]
  refine ⟨by rw [hdl]; have : len * 1 ≤ len * es := Nat.mul_le_mul_left _ h0; omega, cells, ?_, hone, relRow_mono hk.hm (fun _ _ h => h) hrow⟩
  have : setη η σ.length (.slice (some ⟨w.heap.size, 0, none⟩) len len) σ.length = .slice (some ⟨w.heap.size, 0, none⟩) len len := by simp [setη]
  rw [this, hdl]
  refine ⟨hcl, .inr ⟨w.heap.size, len, cells.toArray, rfl, Nat.zero_le _, heap_alloc_new w _, Nat.le_refl _, hlm, by simp [hcl], ?_⟩⟩
  simp only []
  exact List.take_of_length_le (by omega)
 ·simp only [RelV]
  refine ⟨by simp, ⟨_, _, rfl⟩, fun e' es' l hl => ?_⟩
  simp at hl
  obtain ⟨rfl, rfl, rfl⟩ := hl
  exact ⟨by omega, fun _ => by simp [setη]⟩
end
end Go.VM
namespace Go.VM
theorem nodup_inj {α : Type} {l : List α} (h : l.Nodup) {i j : Nat} {a : α} (hi : l[i]? = some a) (hj : l[j]? = some a) : i = j := by
 obtain ⟨h1, e1⟩ := List.getElem?_eq_some_iff.1 hi
 obtain ⟨h2, e2⟩ := List.getElem?_eq_some_iff.1 hj
 have hp := List.pairwise_iff_getElem.1 h
 rcases Nat.lt_trichotomy i j with hl | hl | hl
 ·exact absurd (e1.trans e2.symm) (hp i j h1 h2 hl)
 ·exact hl
 ·exact absurd (e2.trans e1.symm) (hp j i h2 h1 hl)
theorem killAt_get {ks : List Nat} : ∀ {σ : Sig} {i j : Nat}, (killAt ks i σ)[j]? = (σ[j]?).map fun o => cond (ks.any (Nat.beq (i + j))) Obj.dead o
 | [], i, j => by simp [killAt]
 | o :: σ, i, 0 => by simp [killAt]
 | o :: σ, i, j + 1 => by simp only [killAt, List.getElem?_cons_succ]; rw [killAt_get (σ := σ)]; congr 2; funext o; rw [show i + 1 + j = i + (j + 1) by omega]
theorem any_beq {ks : List Nat} {j : Nat} : (ks.any (Nat.beq j)) = decide (j ∈ ks) := by
 rw [Bool.eq_iff_iff, List.any_eq_true, decide_eq_true_iff]
 constructor
 ·rintro ⟨x, h1, h2⟩; rw [Nat.eq_of_beq_eq_true h2]; exact h1
 ·intro h; exact ⟨j, h, Nat.beq_refl j⟩
theorem kill_get {ks : List Nat} {σ : Sig} {j : Nat} : (killAt ks 0 σ)[j]? = if j ∈ ks then (σ[j]?).map (fun _ => Obj.dead) else σ[j]? := by
 rw [killAt_get, Nat.zero_add, any_beq]
 split
 ·rename_i h; simp [h]
 ·rename_i h; simp [h]
theorem kill_len {ks : List Nat} : ∀ {σ : Sig} {i : Nat}, (killAt ks i σ).length = σ.length
 | [], _ => rfl
 | _ :: σ, i => by simp [killAt, kill_len (σ := σ)]
theorem putAll_len : ∀ {ks : List Nat} {σ σ' : Sig}, ks.length ≤ σ'.length → (putAll σ ks σ').length = σ.length + (σ'.length - ks.length)
 | [], σ, σ', _ => by simp [putAll]
 | k :: ks, σ, [], h => by simp at h
 | k :: ks, σ, o :: σ', h => by simp only [putAll]; rw [putAll_len (by simpa using h)]; simp
theorem putAll_old : ∀ {ks : List Nat} {σ σ' : Sig} {j : Nat}, ks.length ≤ σ'.length → j ∉ ks → j < σ.length → (putAll σ ks σ')[j]? = σ[j]?
 | [], σ, σ', j, _, _, hl => by simp only [putAll]; rw [List.getElem?_append_left hl]
 | k :: ks, σ, [], j, h, _, _ => by simp at h
 | k :: ks, σ, o :: σ', j, h, hj, hl => by
  simp only [List.mem_cons, not_or] at hj
  simp only [putAll]
  rw [putAll_old (by simpa using h) hj.2 (by simpa using hl), List.getElem?_set, if_neg (fun e => hj.1 e.symm)]
theorem putAll_new : ∀ {ks : List Nat} {σ σ' : Sig} {i : Nat}, ks.length ≤ σ'.length → (putAll σ ks σ')[σ.length + i]? = σ'[ks.length + i]?
 | [], σ, σ', i, _ => by simp only [putAll]; rw [List.getElem?_append_right (by omega)]; simp
 | k :: ks, σ, [], i, h => by simp at h
 | k :: ks, σ, o :: σ', i, h => by
  have := putAll_new (ks := ks) (σ := σ.set k o) (σ' := σ') (i := i) (by simpa using h)
  simp only [putAll, List.length_set] at this ⊢
  rw [this, List.length_cons, show ks.length + 1 + i = (ks.length + i) + 1 by omega, List.getElem?_cons_succ]
theorem putAll_at : ∀ {ks : List Nat} {σ σ' : Sig} {i k : Nat}, ks.length ≤ σ'.length → ks.Nodup → ks[i]? = some k → k < σ.length → (putAll σ ks σ')[k]? = σ'[i]?
 | [], σ, σ', i, k, _, _, hi, _ => by simp at hi
 | k0 :: ks, σ, [], i, k, h, _, _, _ => by simp at h
 | k0 :: ks, σ, o :: σ', i, k, h, hn, hi, hl => by
  rw [List.nodup_cons] at hn
  simp only [putAll]
  cases i with
  | zero =>
   simp at hi; subst hi
   rw [putAll_old (by simpa using h) hn.1 (by simpa using hl)]
   simp [hl]
  | succ i =>
   rw [putAll_at (by simpa using h) hn.2 (by simpa using hi) (by simpa using hl)]
   simp
section
variable {Ma Mb : Mem} {σa σb : Sig} {ηa ηb : Nat → Value} {ks : List Nat} {n : Nat}
theorem ren_fwd (hf : ∀ i, i < σa.length → ren ks n i < σb.length ∧ σb[ren ks n i]? = σa[i]? ∧ ηb (ren ks n i) = ηa i) : ∀ v : V, v.flt = true → ∀ x, RelV Ma σa ηa v x → RelV Mb σb ηb (v.ren ks n) x := by
 intro v
 refine V.rec (motive_1 := fun v => v.flt = true → ∀ x, RelV Ma σa ηa v x → RelV Mb σb ηb (v.ren ks n) x)
  (motive_2 := fun l => V.fltL l = true → (∀ vs, RelVL Ma σa ηa l vs → RelVL Mb σb ηb (V.renL ks n l) vs) ∧ (∀ vs, RelVC Ma σa ηa l vs → RelVC Mb σb ηb (V.renL ks n l) vs))
  ?_ ?_ ?_ ?_ ?_ ?_ ?_ ?_ ?_ ?_ ?_ ?_ v
 ·intro d hd x hx; simp only [RelV, V.ren] at hx ⊢; exact flat_rel d (by simpa [V.flt] using hd) x hx
 ·intro _ x _; simp only [RelV, V.ren]
 ·intro k off _ x hx; simp only [RelV, V.ren] at hx ⊢
  obtain ⟨h1, h2, h3⟩ := hf k hx.1
  exact ⟨h1, by rw [h3]; exact hx.2⟩
 ·intro k m _ x hx; simp only [RelV, V.ren] at hx ⊢
  obtain ⟨h1, h2, h3⟩ := hf k hx.1
  exact ⟨h1, hx.2.1, fun e es l hl => by rw [h3]; exact hx.2.2 e es l (by rw [← h2]; exact hl)⟩
 ·intro k m i off _ x hx; simp only [RelV, V.ren] at hx ⊢
  obtain ⟨h1, h2, h3⟩ := hf k hx.1
  exact ⟨h1, hx.2.1, fun e es l hl => by rw [h3]; exact hx.2.2 e es l (by rw [← h2]; exact hl)⟩
 ·intro k _ x hx; simp only [RelV, V.ren] at hx ⊢
  obtain ⟨h1, h2, h3⟩ := hf k hx.1
  exact ⟨h1, by rw [h3]; exact hx.2⟩
 ·intro cs ih hb x hx; simp only [RelV, V.ren] at hx ⊢; obtain ⟨vs, e, r⟩ := hx; exact ⟨vs, e, (ih (by simpa [V.flt] using hb)).2 _ r⟩
 ·intro f fi ca _ _ hb; simp [V.flt] at hb
 ·intro us ih hb x hx; simp only [RelV, V.ren] at hx ⊢; obtain ⟨vs, e, r⟩ := hx; exact ⟨vs, e, (ih (by simpa [V.flt] using hb)).1 _ r⟩
 ·intro k m i _ x hx; simp only [RelV, V.ren] at hx ⊢
  obtain ⟨h1, h2, h3⟩ := hf k hx.1
  exact ⟨h1, hx.2.1, fun e es l hl => by rw [h3]; exact hx.2.2 e es l (by rw [← h2]; exact hl)⟩
 ·intro _; exact ⟨fun vs hv => by simpa only [RelVL, V.renL] using hv, fun vs hv => by simpa only [RelVC, V.renL] using hv⟩
 ·intro d ds ihd ih hb
  simp only [V.fltL, Bool.and_eq_true] at hb
  refine ⟨fun vs hv => ?_, fun vs hv => ?_⟩
  ·simp only [RelVL, V.renL] at hv ⊢; obtain ⟨v, r, e, h1, h2⟩ := hv; exact ⟨v, r, e, ihd hb.1 _ h1, (ih hb.2).1 _ h2⟩
  ·simp only [RelVC, V.renL] at hv ⊢; obtain ⟨v, r, e, h0, h1, h2⟩ := hv; exact ⟨v, r, e, h0, ihd hb.1 _ h1, (ih hb.2).2 _ h2⟩
theorem ren_bwd (hM : Mb.le Ma) (hf : ∀ i, i < σa.length → σb[ren ks n i]? = σa[i]? ∧ ηb (ren ks n i) = ηa i) : ∀ v : V, v.bnd σa.length = true → ∀ x, RelV Mb σb ηb (v.ren ks n) x → RelV Ma σa ηa v x := by
 intro v
 refine V.rec (motive_1 := fun v => v.bnd σa.length = true → ∀ x, RelV Mb σb ηb (v.ren ks n) x → RelV Ma σa ηa v x)
  (motive_2 := fun l => V.bndL σa.length l = true → (∀ vs, RelVL Mb σb ηb (V.renL ks n l) vs → RelVL Ma σa ηa l vs) ∧ (∀ vs, RelVC Mb σb ηb (V.renL ks n l) vs → RelVC Ma σa ηa l vs))
  ?_ ?_ ?_ ?_ ?_ ?_ ?_ ?_ ?_ ?_ ?_ ?_ v
 ·intro d _ x hx; simp only [RelV, V.ren] at hx ⊢; exact rel_mono hM hx
 ·intro _ x _; simp only [RelV]
 ·intro k off hb x hx; simp only [RelV, V.ren] at hx ⊢; simp only [V.bnd, decide_eq_true_eq] at hb
  obtain ⟨h2, h3⟩ := hf k hb
  exact ⟨hb, by rw [← h3]; exact hx.2⟩
 ·intro k m hb x hx; simp only [RelV, V.ren] at hx ⊢; simp only [V.bnd, decide_eq_true_eq] at hb
  obtain ⟨h2, h3⟩ := hf k hb
  exact ⟨hb, hx.2.1, fun e es l hl => by rw [← h3]; exact hx.2.2 e es l (by rw [h2]; exact hl)⟩
 ·intro k m i off hb x hx; simp only [RelV, V.ren] at hx ⊢; simp only [V.bnd, decide_eq_true_eq] at hb
  obtain ⟨h2, h3⟩ := hf k hb
  exact ⟨hb, hx.2.1, fun e es l hl => by rw [← h3]; exact hx.2.2 e es l (by rw [h2]; exact hl)⟩
 ·intro k hb x hx; simp only [RelV, V.ren] at hx ⊢; simp only [V.bnd, decide_eq_true_eq] at hb
  obtain ⟨h2, h3⟩ := hf k hb
  exact ⟨hb, by rw [← h3]; exact hx.2⟩
 ·intro cs ih hb x hx; simp only [RelV, V.ren] at hx ⊢; obtain ⟨vs, e, r⟩ := hx; exact ⟨vs, e, (ih (by simpa [V.bnd] using hb)).2 _ r⟩
 ·intro f fi ca ih1 ih2 hb x hx
  simp only [V.bnd, Bool.and_eq_true] at hb
  simp only [RelV, V.ren] at hx ⊢; obtain ⟨fs, cs, e, r1, r2⟩ := hx; exact ⟨fs, cs, e, (ih1 hb.1).1 _ r1, (ih2 hb.2).1 _ r2⟩
 ·intro us ih hb x hx; simp only [RelV, V.ren] at hx ⊢; obtain ⟨vs, e, r⟩ := hx; exact ⟨vs, e, (ih (by simpa [V.bnd] using hb)).1 _ r⟩
 ·intro k m i hb x hx; simp only [RelV, V.ren] at hx ⊢; simp only [V.bnd, decide_eq_true_eq] at hb
  obtain ⟨h2, h3⟩ := hf k hb
  exact ⟨hb, hx.2.1, fun e es l hl => by rw [← h3]; exact hx.2.2 e es l (by rw [h2]; exact hl)⟩
 ·intro _; exact ⟨fun vs hv => by simpa only [RelVL, V.renL] using hv, fun vs hv => by simpa only [RelVC, V.renL] using hv⟩
 ·intro d ds ihd ih hb
  simp only [V.bndL, Bool.and_eq_true] at hb
  refine ⟨fun vs hv => ?_, fun vs hv => ?_⟩
  ·simp only [RelVL, V.renL] at hv ⊢; obtain ⟨v, r, e, h1, h2⟩ := hv; exact ⟨v, r, e, ihd hb.1 _ h1, (ih hb.2).1 _ h2⟩
  ·simp only [RelVC, V.renL] at hv ⊢; obtain ⟨v, r, e, h0, h1, h2⟩ := hv; exact ⟨v, r, e, h0, ihd hb.1 _ h1, (ih hb.2).2 _ h2⟩
end
theorem relVC_data {M M' : Mem} {σ σ' : Sig} {η η' : Nat → Value} {cs : List V} {ds : List D} (h : allD cs = some ds) (hM : ∀ d ∈ ds, ∀ x, Rel M d x → Rel M' d x) {vs : List Value} (hr : RelVC M σ η cs vs) : RelVC M' σ' η' cs vs := by
 rw [allD_eq h] at hr ⊢
 obtain ⟨h1, h2⟩ := relVC_iff.1 hr
 refine relVC_iff.2 ⟨h1, fun i u v hu hv => ?_⟩
 obtain ⟨h3, h4⟩ := h2 i u v hu hv
 refine ⟨h3, ?_⟩
 rw [List.getElem?_map] at hu
 cases hd : ds[i]? with
 | none => rw [hd] at hu; simp at hu
 | some d =>
  rw [hd] at hu; simp at hu; subst hu
  simp only [RelV] at h4 ⊢
  exact hM d (List.mem_of_getElem? hd) v h4
theorem relRow_sub {M M' : Mem} {rd : Nat → Value → Prop} {es o : Nat} {l : List D} (hM : ∀ d ∈ l, ∀ c ∈ d.cells, ∀ x, Rel M c x → Rel M' c x) (h : RelRow M rd es o l) : RelRow M' rd es o l := by
 refine relRow_iff.2 fun i d hd => ?_
 obtain ⟨h1, h2⟩ := relRow_iff.1 h i d hd
 refine ⟨h1, relAt_iff.2 fun j c hc => ?_⟩
 obtain ⟨h3, v, h4, h5⟩ := relAt_iff.1 h2 j c hc
 exact ⟨h3, v, h4, hM d (List.mem_of_getElem? hd) c (List.mem_of_getElem? hc) v h5⟩
theorem flatL_mem : ∀ {l : List D}, D.flatL l = true → ∀ d ∈ l, d.flat = true
 | [], _, _, h => by simp at h
 | x :: l, hf, d, h => by
  simp only [D.flatL, Bool.and_eq_true] at hf
  rcases List.mem_cons.1 h with h | h
  ·subst h; exact hf.1
  ·exact flatL_mem hf.2 d h
theorem flat_cells {d : D} (h : d.flat = true) : ∀ c ∈ d.cells, c.flat = true := by
 cases d with
 | lit => intro c hc; simp [D.cells] at hc; subst hc; exact h
 | agg cs => intro c hc; simp [D.cells] at hc; exact flatL_mem (by simpa [D.flat] using h) c hc
 | tuple => intro c hc; simp [D.cells] at hc; subst hc; exact h
 | _ => simp [D.flat] at h
theorem obj_flat {M M' : Mem} {σ σ' : Sig} {η η' : Nat → Value} {w : World} {i j : Nat} {o : Obj} (hf : o.flat = true) (hη : η' j = η i) (h : ObjRel M σ η w i o) : ObjRel M' σ' η' w j o := by
 cases o with
 | dead => trivial
 | cells cs =>
  simp only [ObjRel] at h ⊢
  obtain ⟨b, c, e, h1, h2, h3⟩ := h
  simp only [Obj.flat] at hf
  split at hf
  ·rename_i ds hds
   exact ⟨b, c, e, by rw [hη, h1], h2, relVC_data hds (fun d hd x hx => flat_rel d (flatL_mem hf d hd) x hx) h3⟩
  ·simp at hf
 | arr e es l =>
  simp only [ObjRel] at h ⊢
  obtain ⟨hbl, xs, h1, h2, h3⟩ := h
  exact ⟨hbl, xs, by rw [hη]; exact h1, h2, relRow_sub (fun d hd c hc x hx => flat_rel c (flat_cells (flatL_mem hf d hd) c hc) x hx) h3⟩
 | map l =>
  simp only [ObjRel] at h ⊢
  simp only [Obj.flat, Bool.and_eq_true] at hf
  obtain ⟨r, en, cl, h1, h2, h3, h4, h5⟩ := h
  have key : ∀ {ds : List D} {vs : List Value}, D.flatL ds = true → RelL M ds vs → RelL M' ds vs := fun {ds vs} hd hr => by
   obtain ⟨e1, e2⟩ := relL_iff.1 hr
   exact relL_iff.2 ⟨e1, fun i d v hd' hv => flat_rel d (flatL_mem hd d (List.mem_of_getElem? hd')) v (e2 i d v hd' hv)⟩
  exact ⟨r, en, cl, by rw [hη, h1], h2, key hf.1 h3, key hf.2 h4, h5⟩
 | raw p cs => simp [Obj.flat, Obj.plain] at hf
theorem obj_plain {M M' : Mem} (hM : M.le M') {σ σ' : Sig} {η η' : Nat → Value} {w : World} {i j : Nat} {o : Obj} (hf : o.plain = true) (hη : η' j = η i) (h : ObjRel M σ η w i o) : ObjRel M' σ' η' w j o := by
 cases o with
 | dead => trivial
 | cells cs =>
  simp only [ObjRel] at h ⊢
  obtain ⟨b, c, e, h1, h2, h3⟩ := h
  simp only [Obj.plain, Option.isSome_iff_exists] at hf
  obtain ⟨ds, hds⟩ := hf
  exact ⟨b, c, e, by rw [hη, h1], h2, relVC_data hds (fun d hd x hx => rel_mono hM hx) h3⟩
 | arr e es l =>
  simp only [ObjRel] at h ⊢
  obtain ⟨hbl, xs, h1, h2, h3⟩ := h
  exact ⟨hbl, xs, by rw [hη]; exact h1, h2, relRow_mono hM (fun _ _ h => h) h3⟩
 | map l =>
  simp only [ObjRel] at h ⊢
  obtain ⟨r, en, cl, h1, h2, h3, h4, h5⟩ := h
  exact ⟨r, en, cl, by rw [hη, h1], h2, relL_mono hM h3, relL_mono hM h4, h5⟩
 | raw p cs => simp [Obj.flat, Obj.plain] at hf
section
variable {A : Nat → Prop} {σ σs : Sig} {η : Nat → Value} {w : World} {ks : List Nat}
theorem sub_get (hk : ks.map (fun k => σ[k]?) = σs.map some) {i k : Nat} (hi : ks[i]? = some k) : ∃ o, σ[k]? = some o ∧ σs[i]? = some o ∧ k < σ.length := by
 have h := congrArg (·[i]?) hk
 simp only [List.getElem?_map, hi, Option.map_some] at h
 cases hs : σs[i]? with
 | none => rw [hs] at h; simp at h
 | some o => rw [hs] at h; simp at h; exact ⟨o, h, rfl, (List.getElem?_eq_some_iff.1 h).1⟩
theorem sub_len (hk : ks.map (fun k => σ[k]?) = σs.map some) : ks.length = σs.length := by simpa using congrArg List.length hk
theorem sub_some (hk : ks.map (fun k => σ[k]?) = σs.map some) {i : Nat} {o : Obj} (hs : σs[i]? = some o) : ∃ k, ks[i]? = some k ∧ σ[k]? = some o := by
 have hl := sub_len hk
 have hi : i < ks.length := by rw [hl]; exact (List.getElem?_eq_some_iff.1 hs).1
 obtain ⟨o', h1, h2, _⟩ := sub_get hk (List.getElem?_eq_getElem hi)
 rw [hs] at h2; cases h2
 exact ⟨_, List.getElem?_eq_getElem hi, h1⟩
theorem sub_home {i k : Nat} (hi : ks[i]? = some k) : η (ks.getD i 0) = η k := by simp [List.getD_eq_getElem?_getD, hi]
theorem sub_owned (hk : ks.map (fun k => σ[k]?) = σs.map some) {b : Nat} (h : Owned (fun i => η (ks.getD i 0)) σs b) : Owned η σ b := by
 obtain ⟨i, o, h1, h2, h3⟩ := h
 obtain ⟨k, h4, h5⟩ := sub_some hk h1
 exact ⟨k, o, h5, h2, by rw [← sub_home (η := η) h4]; exact h3⟩
theorem sub_sig (hs : SigRel A σ η w) (hn : ks.Nodup) (hk : ks.map (fun k => σ[k]?) = σs.map some) (hpl : σs.all Obj.plain = true) : SigRel A σs (fun i => η (ks.getD i 0)) w where
 objs i o ho := by
  obtain ⟨k, h1, h2⟩ := sub_some hk ho
  rw [List.all_eq_true] at hpl
  refine obj_plain (i := k) ?_ (hpl o (List.mem_of_getElem? ho)) (sub_home h1) (hs.objs k o h2)
  exact fun b o v ⟨h3, h4, h5⟩ => ⟨h3, fun h6 => h4 (sub_owned hk h6), h5⟩
 inj i i' o o' b h1 d1 h2 d2 b1 b2 := by
  obtain ⟨k, h3, h4⟩ := sub_some hk h1
  obtain ⟨k', h5, h6⟩ := sub_some hk h2
  have b1' : homeBlock (η k) = some b := by rw [← sub_home (η := η) h3]; exact b1
  have b2' : homeBlock (η k') = some b := by rw [← sub_home (η := η) h5]; exact b2
  have := hs.inj k k' o o' b h4 d1 h6 d2 b1' b2'
  subst this
  exact nodup_inj hn h3 h5
 out b hb := hs.out b (sub_owned hk hb)
 bound := hs.bound
theorem kill_sig (hs : SigRel A σ η w) (hn : ks.Nodup) (hk : ks.map (fun k => σ[k]?) = σs.map some) :
  SigRel (fun b => A b ∨ Owned (fun i => η (ks.getD i 0)) σs b) (killAt ks 0 σ) η w ∧ (∀ u x, RelV (mem A η σ w) σ η u x → RelV (mem (fun b => A b ∨ Owned (fun i => η (ks.getD i 0)) σs b) η (killAt ks 0 σ) w) (killAt ks 0 σ) η u x) := by
 have get : ∀ {j : Nat} {o : Obj}, (killAt ks 0 σ)[j]? = some o → o ≠ .dead → j ∉ ks ∧ σ[j]? = some o := fun {j o} h hd => by
  rw [kill_get] at h
  split at h
  ·cases hj : σ[j]? with
   | none => rw [hj] at h; simp at h
   | some o' => rw [hj] at h; simp at h; exact absurd h.symm hd
  ·rename_i hj; exact ⟨hj, h⟩
 have own : ∀ {b : Nat}, Owned η (killAt ks 0 σ) b → Owned η σ b := fun ⟨j, o, h1, h2, h3⟩ => ⟨j, o, (get h1 h2).2, h2, h3⟩
 have own' : ∀ {b : Nat}, Owned η σ b → Owned (fun i => η (ks.getD i 0)) σs b ∨ Owned η (killAt ks 0 σ) b := fun {b} ⟨j, o, h1, h2, h3⟩ => by
  by_cases hj : j ∈ ks
  ·obtain ⟨i, hi⟩ := List.getElem?_of_mem hj
   obtain ⟨o', h4, h5, _⟩ := sub_get hk hi
   rw [h1] at h4; cases h4
   exact .inl ⟨i, o, h5, h2, by show homeBlock (η (ks.getD i 0)) = some b; rw [sub_home (η := η) hi]; exact h3⟩
  ·exact .inr ⟨j, o, by rw [kill_get, if_neg hj]; exact h1, h2, h3⟩
 have hM : Mem.le (mem A η σ w) (mem (fun b => A b ∨ Owned (fun i => η (ks.getD i 0)) σs b) η (killAt ks 0 σ) w) := fun b o v ⟨h1, h2, h3⟩ => ⟨fun h => h.elim h1 (fun h => h2 (sub_owned hk h)), fun h => h2 (own h), h3⟩
 have hrel : ∀ u x, RelV (mem A η σ w) σ η u x → RelV (mem (fun b => A b ∨ Owned (fun i => η (ks.getD i 0)) σs b) η (killAt ks 0 σ) w) (killAt ks 0 σ) η u x := by
  intro u x hx
  refine relV_keep ⟨hM, by rw [kill_len]; exact Nat.le_refl _, fun k hkl => .inl ⟨rfl, fun e es l hl => ⟨l, (get hl (by simp)).2, rfl⟩⟩⟩ u x hx
 refine ⟨⟨fun j o ho => ?_, fun j j' o o' b h1 d1 h2 d2 => hs.inj j j' o o' b (get h1 d1).2 d1 (get h2 d2).2 d2, fun b hb => ⟨fun h => ?_, (hs.out b (own hb)).2⟩, fun b hb => hb.elim (hs.bound b) (fun h => (hs.out b (sub_owned hk h)).2)⟩, hrel⟩
 ·by_cases hd : o = .dead
  ·subst hd; trivial
  ·obtain ⟨hj, ho'⟩ := get ho hd
   refine objRel_keep ⟨hM, by rw [kill_len]; exact Nat.le_refl _, fun k hkl => .inl ⟨rfl, fun e es l hl => ⟨l, (get hl (by simp)).2, rfl⟩⟩⟩ rfl (fun _ _ => rfl) (Nat.le_refl _) (hs.objs j o ho')
 ·rcases h with h | h
  ·exact (hs.out b (own hb)).1 h
  ·obtain ⟨j, o, h1, h2, h3⟩ := hb
   obtain ⟨hj, h1'⟩ := get h1 h2
   obtain ⟨i, o', h4, h5, h6⟩ := h
   obtain ⟨k, h7, h8⟩ := sub_some hk h4
   have h6' : homeBlock (η k) = some b := by rw [← sub_home (η := η) h7]; exact h6
   have := hs.inj j k o o' b h1' h2 h8 h5 h3 h6'
   subst this
   exact hj (List.mem_of_getElem? h7)
theorem arg_rel (hs : SigRel A σ η w) (hn : ks.Nodup) (hk : ks.map (fun k => σ[k]?) = σs.map some) {u a : V} (h : Arg σ ks u a) {x : Value} (hx : RelV (mem A η σ w) σ η u x) : RelV (mem A (fun i => η (ks.getD i 0)) σs w) σs (fun i => η (ks.getD i 0)) a x := by
 cases h with
 | look h =>
  obtain ⟨h1, h2⟩ := kill_sig hs hn hk
  have := fz_rel h1 h x (h2 u x hx)
  simp only [RelV]
  exact rel_mono (fun b o v ⟨h3, h4⟩ => ⟨fun h => h3 (.inl h), fun h => h3 (.inr h), h4⟩) this
 | hnd h hb =>
  subst h
  refine ren_bwd (ks := ks) (n := 0) (fun b o v ⟨h1, h2, h3⟩ => ⟨h1, fun h => h2 (sub_owned hk h), h3⟩) (fun i hi => ?_) a (by rw [← sub_len hk]; exact hb) x hx
  have hi' : i < ks.length := by rw [sub_len hk]; exact hi
  obtain ⟨o, h1, h2, _⟩ := sub_get hk (List.getElem?_eq_getElem hi')
  have e : ren ks 0 i = ks[i] := by simp [ren, hi', List.getD_eq_getElem?_getD]
  refine ⟨by rw [e, h1, h2], ?_⟩
  show η (ren ks 0 i) = η (ks.getD i 0)
  rw [e, sub_home (η := η) (List.getElem?_eq_getElem hi')]
theorem argL_rel (hs : SigRel A σ η w) (hn : ks.Nodup) (hk : ks.map (fun k => σ[k]?) = σs.map some) {us as0 : List V} (h : ArgL σ ks us as0) : ∀ {xs : List Value}, RelVL (mem A η σ w) σ η us xs → RelVL (mem A (fun i => η (ks.getD i 0)) σs w) σs (fun i => η (ks.getD i 0)) as0 xs := by
 induction h with
 | nil => intro xs hx; simpa only [RelVL] using hx
 | cons h k ih => intro xs hx; simp only [RelVL] at hx ⊢; obtain ⟨v, r, e, h1, h2⟩ := hx; exact ⟨v, r, e, arg_rel hs hn hk h h1, ih h2⟩
def backη (η η1 : Nat → Value) (ks : List Nat) (n : Nat) : Nat → Value := fun j => if j < n then (if j ∈ ks then η1 (ks.idxOf j) else η j) else η1 (ks.length + (j - n))
theorem back_home {η1 : Nat → Value} (hn : ks.Nodup) {n i k : Nat} (hi : ks[i]? = some k) (hk : k < n) : backη η η1 ks n k = η1 i := by
 have hm := List.mem_of_getElem? hi
 have hlt : ks.idxOf k < ks.length := List.idxOf_lt_length_of_mem hm
 have : ks[ks.idxOf k]? = some k := by rw [List.getElem?_eq_getElem hlt]; simp
 simp only [backη, if_pos hk, if_pos hm, nodup_inj hn this hi]
theorem gcall_nxt {m : Nat} {σs' : Sig} {η1 : Nat → Value} {w' : World} (hs : SigRel A σ η w) (hn : ks.Nodup) (hk : ks.map (fun k => σ[k]?) = σs.map some) (hpl : σs.all Obj.live = true) (hf : σs'.all Obj.flat = true) {r0 : V} (hr : r0.flt = true)
  {v : Value} (h1 : SigRel A σs' η1 w') (h2 : RelV (mem A η1 σs' w') σs' η1 r0 v) (h3 : Trans σs.length σs (fun i => η (ks.getD i 0)) w σs' η1 w') :
  Nxt m A σ η w (r0.ren ks σ.length) v (putAll σ ks σs') (backη η η1 ks σ.length) w' := by
 have hl := sub_len hk
 rw [List.all_eq_true] at hpl hf
 have kept : ∀ i, i < σs.length → i < σs'.length := by
  intro i hi
  have hg := List.getElem?_eq_getElem hi
  have : ∃ o, σs'[i]? = some o := by
   cases ho : σs[i] with
   | dead => rw [ho] at hg; exact ⟨_, h3.gone i hi hg⟩
   | cells cs => rw [ho] at hg; obtain ⟨⟨cs', h⟩, _⟩ := h3.box i cs hi hg; exact ⟨_, h⟩
   | arr e es l => rw [ho] at hg; rcases h3.row i e es l hi hg with h | ⟨l', h, _⟩ <;> exact ⟨_, h⟩
   | map l => rw [ho] at hg; obtain ⟨⟨l', h⟩, _⟩ := h3.map i l hi hg; exact ⟨_, h⟩
   | raw p cs => rw [ho] at hg; obtain ⟨⟨p', l', h⟩, _⟩ := h3.raw i p cs hi hg; exact ⟨_, h⟩
  obtain ⟨o, ho⟩ := this
  exact (List.getElem?_eq_some_iff.1 ho).1
 have hle : ks.length ≤ σs'.length := by
  rw [hl]
  by_cases h0 : σs.length = 0
  ·omega
  ·have := kept (σs.length - 1) (by omega); omega
 have hlen := putAll_len (σ := σ) hle
 have old : ∀ j, j < σ.length → j ∉ ks → (putAll σ ks σs')[j]? = σ[j]? ∧ backη η η1 ks σ.length j = η j := fun j hj hm => ⟨putAll_old hle hm hj, by simp [backη, hj, hm]⟩
 have fnew : ∀ i, i < σs'.length → ren ks σ.length i < (putAll σ ks σs').length ∧ (putAll σ ks σs')[ren ks σ.length i]? = σs'[i]? ∧ backη η η1 ks σ.length (ren ks σ.length i) = η1 i := by
  intro i hi
  by_cases hik : i < ks.length
  ·have hg := List.getElem?_eq_getElem hik
   obtain ⟨o, g1, g2, g3⟩ := sub_get hk hg
   have e : ren ks σ.length i = ks[i] := by simp [ren, hik, List.getD_eq_getElem?_getD]
   rw [e]
   exact ⟨by rw [hlen]; omega, putAll_at hle hn hg g3, back_home hn hg g3⟩
  ·have e : ren ks σ.length i = σ.length + (i - ks.length) := by simp [ren, hik]
   rw [e]
   refine ⟨by rw [hlen]; omega, by rw [putAll_new hle, show ks.length + (i - ks.length) = i by omega], ?_⟩
   simp only [backη]
   rw [if_neg (by omega), show ks.length + (σ.length + (i - ks.length) - σ.length) = i by omega]
 have cls : ∀ j o, (putAll σ ks σs')[j]? = some o → (j < σ.length ∧ j ∉ ks ∧ σ[j]? = some o ∧ backη η η1 ks σ.length j = η j) ∨ (∃ i, σs'[i]? = some o ∧ backη η η1 ks σ.length j = η1 i ∧ ren ks σ.length i = j) := by
  intro j o hj
  have hjl := (List.getElem?_eq_some_iff.1 hj).1
  by_cases hjn : j < σ.length
  ·by_cases hm : j ∈ ks
   ·obtain ⟨i, hi⟩ := List.getElem?_of_mem hm
    obtain ⟨_, _, g2, _⟩ := sub_get hk hi
    have hi2 := (List.getElem?_eq_some_iff.1 hi).1
    refine .inr ⟨i, ?_, back_home hn hi hjn, ?_⟩
    ·rw [← putAll_at hle hn hi hjn]; exact hj
    ·simp only [ren, if_pos hi2, List.getD_eq_getElem?_getD, hi, Option.getD_some]
   ·exact .inl ⟨hjn, hm, by rw [← (old j hjn hm).1]; exact hj, (old j hjn hm).2⟩
  ·refine .inr ⟨ks.length + (j - σ.length), ?_, ?_, ?_⟩
   ·rw [← putAll_new (σ := σ) hle, show σ.length + (j - σ.length) = j by omega]; exact hj
   ·simp [backη, hjn]
   ·simp only [ren]; rw [if_neg (by omega)]; omega
 have own2 : ∀ b, Owned (backη η η1 ks σ.length) (putAll σ ks σs') b → (∃ j o, j ∉ ks ∧ σ[j]? = some o ∧ o ≠ .dead ∧ homeBlock (η j) = some b) ∨ Owned η1 σs' b := by
  rintro b ⟨j, o, hj, hd, hb⟩
  rcases cls j o hj with ⟨c1, c2, c3, c4⟩ | ⟨i, c1, c2, c3⟩
  ·rw [c4] at hb; exact .inl ⟨j, o, c2, c3, hd, hb⟩
  ·rw [c2] at hb; exact .inr ⟨i, o, c1, hd, hb⟩
 have ownb : ∀ b, Owned η1 σs' b → Owned η σ b ∨ w.heap.size ≤ b := fun b hb => (h3.own b hb).imp (fun h => sub_owned hk h) id
 have own3 : ∀ b, Owned (backη η η1 ks σ.length) (putAll σ ks σs') b → Owned η σ b ∨ w.heap.size ≤ b := fun b hb => by
  rcases own2 b hb with ⟨j, o, _, c2, c3, c4⟩ | h
  ·exact .inl ⟨j, o, c2, c3, c4⟩
  ·exact ownb b h
 have hkeepW : ∀ b, b < w.heap.size → ¬ Owned (fun i => η (ks.getD i 0)) σs b → w'.heap[b]? = w.heap[b]? := h3.keep
 have other : ∀ j o, j ∉ ks → σ[j]? = some o → o ≠ .dead → ∀ b, homeBlock (η j) = some b → ¬ Owned (fun i => η (ks.getD i 0)) σs b := by
  rintro j o hj ho hd b hb ⟨i, o', g1, g2, g3⟩
  obtain ⟨k, g4, g5⟩ := sub_some hk g1
  have g3' : homeBlock (η k) = some b := by rw [← sub_home (η := η) g4]; exact g3
  have := hs.inj j k o o' b ho hd g5 g2 hb g3'
  subst this
  exact hj (List.mem_of_getElem? g4)
 have fate : ∀ (i k : Nat), ks[i]? = some k → (∀ cs, σ[k]? = some (.cells cs) → (∃ cs', (putAll σ ks σs')[k]? = some (.cells cs')) ∧ backη η η1 ks σ.length k = η k) ∧ (∀ l, σ[k]? = some (.map l) → (∃ l', (putAll σ ks σs')[k]? = some (.map l')) ∧ backη η η1 ks σ.length k = η k) ∧
   (∀ (e : TypeId) (es : Nat) (l : List D), σ[k]? = some (.arr e es l) → RowK (putAll σ ks σs') η (backη η η1 ks σ.length) k e es l) ∧ σ[k]? ≠ some .dead ∧ (∀ p cs, σ[k]? = some (.raw p cs) → (∃ p' cs', (putAll σ ks σs')[k]? = some (.raw p' cs')) ∧ backη η η1 ks σ.length k = η k) := by
  intro i k hi
  obtain ⟨o, g1, g2, g3⟩ := sub_get hk hi
  have hi' : i < σs.length := (List.getElem?_eq_some_iff.1 g2).1
  have e1 := putAll_at (σ := σ) hle hn hi g3
  have e2 := back_home (η := η) (η1 := η1) hn hi g3
  have e3 : η (ks.getD i 0) = η k := sub_home hi
  refine ⟨fun cs hc => ?_, fun l hc => ?_, fun e es l hc => ?_, fun hc => ?_, fun p cs hc => ?_⟩
  ·rw [g1] at hc; cases hc
   obtain ⟨⟨cs', q1⟩, q2⟩ := h3.box i cs hi' g2
   exact ⟨⟨cs', by rw [e1, q1]⟩, by rw [e2, q2]; exact e3⟩
  ·rw [g1] at hc; cases hc
   obtain ⟨⟨cs', q1⟩, q2⟩ := h3.map i l hi' g2
   exact ⟨⟨cs', by rw [e1, q1]⟩, by rw [e2, q2]; exact e3⟩
  ·rw [g1] at hc; cases hc
   rcases h3.row i e es l hi' g2 with q | ⟨l', q1, q2⟩
   ·exact .inl (by rw [e1, q])
   ·refine .inr ⟨l', by rw [e1, q1], q2.imp id (fun ⟨q3, q4⟩ => ⟨q3, by rw [e2, q4]; exact e3⟩)⟩
  ·rw [g1] at hc; cases hc
   have := hpl _ (List.mem_of_getElem? g2)
   simp [Obj.live] at this
  ·rw [g1] at hc; cases hc
   obtain ⟨⟨p', cs', q1⟩, q2⟩ := h3.raw i p cs hi' g2
   exact ⟨⟨p', cs', by rw [e1, q1]⟩, by rw [e2, q2]; exact e3⟩
 have hcell : ∀ b o v, ¬ Owned η σ b → w.cell? ⟨b, o, none⟩ = some v → w'.cell? ⟨b, o, none⟩ = some v := fun b o1 y hno hc => by
  rw [cell_of_heap (hkeepW b (lt_of_cell hc) (fun h => hno (sub_owned hk h))), hc]
 have hkeep : Keeps (mem A η σ w) σ η (mem A (backη η η1 ks σ.length) (putAll σ ks σs') w') (putAll σ ks σs') (backη η η1 ks σ.length) := by
  refine ⟨fun b o1 y ⟨q1, q2, q3⟩ => ⟨q1, fun h => ?_, hcell b o1 y q2 q3⟩, by rw [hlen]; omega, fun k hkl => ?_⟩
  ·rcases own3 b h with h | h
   ·exact q2 h
   ·have := lt_of_cell q3; omega
  ·by_cases hm : k ∈ ks
   ·obtain ⟨i, hi⟩ := List.getElem?_of_mem hm
    obtain ⟨f1, f2, f3, f4, f5⟩ := fate i k hi
    have hg := List.getElem?_eq_getElem hkl
    cases ho : σ[k] with
    | dead => rw [ho] at hg; exact absurd hg f4
    | cells cs =>
     rw [ho] at hg
     obtain ⟨⟨cs', q1⟩, q2⟩ := f1 cs hg
     exact .inl ⟨q2, fun e es l' hl' => by rw [q1] at hl'; cases hl'⟩
    | map l =>
     rw [ho] at hg
     obtain ⟨⟨cs', q1⟩, q2⟩ := f2 l hg
     exact .inl ⟨q2, fun e es l' hl' => by rw [q1] at hl'; cases hl'⟩
    | raw p cs =>
     rw [ho] at hg
     obtain ⟨⟨p', cs', q1⟩, q2⟩ := f5 p cs hg
     exact .inl ⟨q2, fun e es l' hl' => by rw [q1] at hl'; cases hl'⟩
    | arr e es l =>
     rw [ho] at hg
     have hnotp : (∀ a, η k ≠ .pointer a) ∧ (∀ r, η k ≠ .map r) := by
      have := hs.objs k _ hg
      simp only [ObjRel] at this
      obtain ⟨hbl, xs, hx, _⟩ := this
      rcases hx.2 with ⟨e, _⟩ | ⟨g, c, cur, e, _⟩ <;> rw [e] <;> simp
     rcases f3 e es l hg with q | ⟨l', q1, q2 | ⟨q2, q3⟩⟩
     ·exact .inr (.inr ⟨q, hnotp.1, hnotp.2⟩)
     ·exact .inr (.inl ⟨e, es, l, l', hg, q1, q2, hnotp.1, hnotp.2⟩)
     ·exact .inl ⟨q3, fun e' es' l'' hl' => by rw [q1] at hl'; cases hl'; exact ⟨l, hg, q2.symm⟩⟩
   ·obtain ⟨q1, q2⟩ := old k hkl hm
    exact .inl ⟨q2, fun e es l' hl' => ⟨l', by rw [← q1]; exact hl', rfl⟩⟩
 refine ⟨⟨fun j o hj => ?_, fun j j' o o' b g1 d1 g2 d2 b1 b2 => ?_, fun b hb => ?_, h1.bound⟩, hkeep, ren_fwd fnew r0 hr v h2, ⟨h3.os, h3.tape, h3.output, h3.size, fun b hb hno => hkeepW b hb (fun h => hno (sub_owned hk h)), own3, fun k cs _ hc => ?_, fun k l _ hc => ?_, fun k e es l _ hc => ?_, fun k _ hc => ?_, fun k p cs _ hc => ?_⟩⟩
 ·rcases cls j o hj with ⟨c1, c2, c3, c4⟩ | ⟨i, c1, c2, c3⟩
  ·by_cases hd : o = .dead
   ·subst hd; trivial
   ·exact objRel_keep hkeep c4 (fun b hb => hkeepW b (hs.out b ⟨j, o, c3, hd, hb⟩).2 (other j o c2 c3 hd b hb)) h3.size (hs.objs j o c3)
  ·exact obj_flat (hf o (List.mem_of_getElem? c1)) c2 (h1.objs i o c1)
 ·have mix : ∀ {j o i o'}, j ∉ ks → σ[j]? = some o → o ≠ .dead → homeBlock (η j) = some b → σs'[i]? = some o' → o' ≠ .dead → homeBlock (η1 i) = some b → False := fun {j o i o'} q1 q2 q3 q4 q5 q6 q7 => by
   rcases h3.own b ⟨i, o', q5, q6, q7⟩ with h | h
   ·exact other j o q1 q2 q3 b q4 h
   ·have := (hs.out b ⟨j, o, q2, q3, q4⟩).2; omega
  rcases cls j o g1 with ⟨c1, c2, c3, c4⟩ | ⟨i, c1, c2, c3⟩ <;> rcases cls j' o' g2 with ⟨c5, c6, c7, c8⟩ | ⟨i', c5, c6, c7⟩
  ·rw [c4] at b1; rw [c8] at b2
   exact hs.inj j j' o o' b c3 d1 c7 d2 b1 b2
  ·rw [c4] at b1; rw [c6] at b2
   exact (mix c2 c3 d1 b1 c5 d2 b2).elim
  ·rw [c2] at b1; rw [c8] at b2
   exact (mix c6 c7 d2 b2 c1 d1 b1).elim
  ·rw [c2] at b1; rw [c6] at b2
   rw [← c3, ← c7, h1.inj i i' o o' b c1 d1 c5 d2 b1 b2]
 ·rcases own2 b hb with ⟨j, o, _, c2, c3, c4⟩ | h
  ·have := hs.out b ⟨j, o, c2, c3, c4⟩
   exact ⟨this.1, Nat.lt_of_lt_of_le this.2 h3.size⟩
  ·exact h1.out b h
 all_goals
  have hkl : k < σ.length := (List.getElem?_eq_some_iff.1 hc).1
  by_cases hm : k ∈ ks
 ·obtain ⟨i, hi⟩ := List.getElem?_of_mem hm
  exact (fate i k hi).1 cs hc
 ·obtain ⟨q1, q2⟩ := old k hkl hm
  exact ⟨⟨cs, by rw [q1]; exact hc⟩, q2⟩
 ·obtain ⟨i, hi⟩ := List.getElem?_of_mem hm
  exact (fate i k hi).2.1 l hc
 ·obtain ⟨q1, q2⟩ := old k hkl hm
  exact ⟨⟨l, by rw [q1]; exact hc⟩, q2⟩
 ·obtain ⟨i, hi⟩ := List.getElem?_of_mem hm
  exact (fate i k hi).2.2.1 e es l hc
 ·obtain ⟨q1, q2⟩ := old k hkl hm
  exact .inr ⟨l, by rw [q1]; exact hc, .inr ⟨rfl, q2⟩⟩
 ·obtain ⟨i, hi⟩ := List.getElem?_of_mem hm
  exact absurd hc (fate i k hi).2.2.2.1
 ·obtain ⟨q1, q2⟩ := old k hkl hm
  rw [q1]; exact hc
 ·obtain ⟨i, hi⟩ := List.getElem?_of_mem hm
  exact (fate i k hi).2.2.2.2 p cs hc
 ·obtain ⟨q1, q2⟩ := old k hkl hm
  exact ⟨⟨p, cs, by rw [q1]; exact hc⟩, q2⟩
end
end Go.VM
namespace Go.VM
theorem Obj.ren_dead {ks : List Nat} {n : Nat} {o : Obj} : o.ren ks n = .dead ↔ o = .dead := by cases o <;> simp [Obj.ren]
section
variable {M : Mem} {σa σb : Sig} {ηa ηb : Nat → Value} {ks : List Nat} {n : Nat}
theorem ren_fwd2 (hf : ∀ i, i < σa.length → ren ks n i < σb.length ∧ ηb (ren ks n i) = ηa i ∧ ∀ e es l, σb[ren ks n i]? = some (.arr e es l) → σa[i]? = some (.arr e es l)) : ∀ v : V, ∀ x, RelV M σa ηa v x → RelV M σb ηb (v.ren ks n) x := by
 intro v
 refine V.rec (motive_1 := fun v => ∀ x, RelV M σa ηa v x → RelV M σb ηb (v.ren ks n) x)
  (motive_2 := fun l => (∀ vs, RelVL M σa ηa l vs → RelVL M σb ηb (V.renL ks n l) vs) ∧ (∀ vs, RelVC M σa ηa l vs → RelVC M σb ηb (V.renL ks n l) vs))
  ?_ ?_ ?_ ?_ ?_ ?_ ?_ ?_ ?_ ?_ ?_ ?_ v
 ·intro d x hx; simp only [RelV, V.ren] at hx ⊢; exact hx
 ·intro x _; simp only [RelV, V.ren]
 ·intro k off x hx; simp only [RelV, V.ren] at hx ⊢
  obtain ⟨h1, h3, h2⟩ := hf k hx.1
  exact ⟨h1, by rw [h3]; exact hx.2⟩
 ·intro k m x hx; simp only [RelV, V.ren] at hx ⊢
  obtain ⟨h1, h3, h2⟩ := hf k hx.1
  exact ⟨h1, hx.2.1, fun e es l hl => by rw [h3]; exact hx.2.2 e es l (h2 e es l hl)⟩
 ·intro k m i off x hx; simp only [RelV, V.ren] at hx ⊢
  obtain ⟨h1, h3, h2⟩ := hf k hx.1
  exact ⟨h1, hx.2.1, fun e es l hl => by rw [h3]; exact hx.2.2 e es l (h2 e es l hl)⟩
 ·intro k x hx; simp only [RelV, V.ren] at hx ⊢
  obtain ⟨h1, h3, h2⟩ := hf k hx.1
  exact ⟨h1, by rw [h3]; exact hx.2⟩
 ·intro cs ih x hx; simp only [RelV, V.ren] at hx ⊢; obtain ⟨vs, e, r⟩ := hx; exact ⟨vs, e, ih.2 _ r⟩
 ·intro f fi ca ih1 ih2 x hx; simp only [RelV, V.ren] at hx ⊢; obtain ⟨fs, cs, e, r1, r2⟩ := hx; exact ⟨fs, cs, e, ih1.1 _ r1, ih2.1 _ r2⟩
 ·intro us ih x hx; simp only [RelV, V.ren] at hx ⊢; obtain ⟨vs, e, r⟩ := hx; exact ⟨vs, e, ih.1 _ r⟩
 ·intro k m i x hx; simp only [RelV, V.ren] at hx ⊢
  obtain ⟨h1, h3, h2⟩ := hf k hx.1
  exact ⟨h1, hx.2.1, fun e es l hl => by rw [h3]; exact hx.2.2 e es l (h2 e es l hl)⟩
 ·exact ⟨fun vs hv => by simpa only [RelVL, V.renL] using hv, fun vs hv => by simpa only [RelVC, V.renL] using hv⟩
 ·intro d ds ihd ih
  refine ⟨fun vs hv => ?_, fun vs hv => ?_⟩
  ·simp only [RelVL, V.renL] at hv ⊢; obtain ⟨v, r, e, h1, h2⟩ := hv; exact ⟨v, r, e, ihd _ h1, ih.1 _ h2⟩
  ·simp only [RelVC, V.renL] at hv ⊢; obtain ⟨v, r, e, h0, h1, h2⟩ := hv; exact ⟨v, r, e, h0, ihd _ h1, ih.2 _ h2⟩
theorem ren_bwd2 (hf : ∀ i, i < σa.length → ηb (ren ks n i) = ηa i ∧ ∀ e es l, σa[i]? = some (.arr e es l) → σb[ren ks n i]? = some (.arr e es l)) : ∀ v : V, v.bnd σa.length = true → ∀ x, RelV M σb ηb (v.ren ks n) x → RelV M σa ηa v x := by
 intro v
 refine V.rec (motive_1 := fun v => v.bnd σa.length = true → ∀ x, RelV M σb ηb (v.ren ks n) x → RelV M σa ηa v x)
  (motive_2 := fun l => V.bndL σa.length l = true → (∀ vs, RelVL M σb ηb (V.renL ks n l) vs → RelVL M σa ηa l vs) ∧ (∀ vs, RelVC M σb ηb (V.renL ks n l) vs → RelVC M σa ηa l vs))
  ?_ ?_ ?_ ?_ ?_ ?_ ?_ ?_ ?_ ?_ ?_ ?_ v
 ·intro d _ x hx; simp only [RelV, V.ren] at hx ⊢; exact hx
 ·intro _ x _; simp only [RelV]
 ·intro k off hb x hx; simp only [RelV, V.ren] at hx ⊢; simp only [V.bnd, decide_eq_true_eq] at hb
  obtain ⟨h3, h2⟩ := hf k hb
  exact ⟨hb, by rw [← h3]; exact hx.2⟩
 ·intro k m hb x hx; simp only [RelV, V.ren] at hx ⊢; simp only [V.bnd, decide_eq_true_eq] at hb
  obtain ⟨h3, h2⟩ := hf k hb
  exact ⟨hb, hx.2.1, fun e es l hl => by rw [← h3]; exact hx.2.2 e es l (h2 e es l hl)⟩
 ·intro k m i off hb x hx; simp only [RelV, V.ren] at hx ⊢; simp only [V.bnd, decide_eq_true_eq] at hb
  obtain ⟨h3, h2⟩ := hf k hb
  exact ⟨hb, hx.2.1, fun e es l hl => by rw [← h3]; exact hx.2.2 e es l (h2 e es l hl)⟩
 ·intro k hb x hx; simp only [RelV, V.ren] at hx ⊢; simp only [V.bnd, decide_eq_true_eq] at hb
  obtain ⟨h3, h2⟩ := hf k hb
  exact ⟨hb, by rw [← h3]; exact hx.2⟩
 ·intro cs ih hb x hx; simp only [RelV, V.ren] at hx ⊢; obtain ⟨vs, e, r⟩ := hx; exact ⟨vs, e, (ih (by simpa [V.bnd] using hb)).2 _ r⟩
 ·intro f fi ca ih1 ih2 hb x hx
  simp only [V.bnd, Bool.and_eq_true] at hb
  simp only [RelV, V.ren] at hx ⊢; obtain ⟨fs, cs, e, r1, r2⟩ := hx; exact ⟨fs, cs, e, (ih1 hb.1).1 _ r1, (ih2 hb.2).1 _ r2⟩
 ·intro us ih hb x hx; simp only [RelV, V.ren] at hx ⊢; obtain ⟨vs, e, r⟩ := hx; exact ⟨vs, e, (ih (by simpa [V.bnd] using hb)).1 _ r⟩
 ·intro k m i hb x hx; simp only [RelV, V.ren] at hx ⊢; simp only [V.bnd, decide_eq_true_eq] at hb
  obtain ⟨h3, h2⟩ := hf k hb
  exact ⟨hb, hx.2.1, fun e es l hl => by rw [← h3]; exact hx.2.2 e es l (h2 e es l hl)⟩
 ·intro _; exact ⟨fun vs hv => by simpa only [RelVL, V.renL] using hv, fun vs hv => by simpa only [RelVC, V.renL] using hv⟩
 ·intro d ds ihd ih hb
  simp only [V.bndL, Bool.and_eq_true] at hb
  refine ⟨fun vs hv => ?_, fun vs hv => ?_⟩
  ·simp only [RelVL, V.renL] at hv ⊢; obtain ⟨v, r, e, h1, h2⟩ := hv; exact ⟨v, r, e, ihd hb.1 _ h1, (ih hb.2).1 _ h2⟩
  ·simp only [RelVC, V.renL] at hv ⊢; obtain ⟨v, r, e, h0, h1, h2⟩ := hv; exact ⟨v, r, e, h0, ihd hb.1 _ h1, (ih hb.2).2 _ h2⟩
theorem renL_fwd2 (hf : ∀ i, i < σa.length → ren ks n i < σb.length ∧ ηb (ren ks n i) = ηa i ∧ ∀ e es l, σb[ren ks n i]? = some (.arr e es l) → σa[i]? = some (.arr e es l)) : ∀ (us : List V) (xs : List Value), RelVC M σa ηa us xs → RelVC M σb ηb (V.renL ks n us) xs
 | [], xs, h => by simpa only [RelVC, V.renL] using h
 | u :: us, xs, h => by simp only [RelVC, V.renL] at h ⊢; obtain ⟨v, r, e, h0, h1, h2⟩ := h; exact ⟨v, r, e, h0, ren_fwd2 hf u _ h1, renL_fwd2 hf us _ h2⟩
theorem renL_bwd2 (hf : ∀ i, i < σa.length → ηb (ren ks n i) = ηa i ∧ ∀ e es l, σa[i]? = some (.arr e es l) → σb[ren ks n i]? = some (.arr e es l)) : ∀ (us : List V) (xs : List Value), V.bndL σa.length us = true → RelVC M σb ηb (V.renL ks n us) xs → RelVC M σa ηa us xs
 | [], xs, _, h => by simpa only [RelVC, V.renL] using h
 | u :: us, xs, hb, h => by
  simp only [V.bndL, Bool.and_eq_true] at hb
  simp only [RelVC, V.renL] at h ⊢; obtain ⟨v, r, e, h0, h1, h2⟩ := h; exact ⟨v, r, e, h0, ren_bwd2 hf u hb.1 _ h1, renL_bwd2 hf us _ hb.2 h2⟩
theorem renVL_fwd2 (hf : ∀ i, i < σa.length → ren ks n i < σb.length ∧ ηb (ren ks n i) = ηa i ∧ ∀ e es l, σb[ren ks n i]? = some (.arr e es l) → σa[i]? = some (.arr e es l)) : ∀ (us : List V) (xs : List Value), RelVL M σa ηa us xs → RelVL M σb ηb (V.renL ks n us) xs
 | [], xs, h => by simpa only [RelVL, V.renL] using h
 | u :: us, xs, h => by simp only [RelVL, V.renL] at h ⊢; obtain ⟨v, r, e, h1, h2⟩ := h; exact ⟨v, r, e, ren_fwd2 hf u _ h1, renVL_fwd2 hf us _ h2⟩
theorem renVL_bwd2 (hf : ∀ i, i < σa.length → ηb (ren ks n i) = ηa i ∧ ∀ e es l, σa[i]? = some (.arr e es l) → σb[ren ks n i]? = some (.arr e es l)) : ∀ (us : List V) (xs : List Value), V.bndL σa.length us = true → RelVL M σb ηb (V.renL ks n us) xs → RelVL M σa ηa us xs
 | [], xs, _, h => by simpa only [RelVL, V.renL] using h
 | u :: us, xs, hb, h => by
  simp only [V.bndL, Bool.and_eq_true] at hb
  simp only [RelVL, V.renL] at h ⊢; obtain ⟨v, r, e, h1, h2⟩ := h; exact ⟨v, r, e, ren_bwd2 hf u hb.1 _ h1, renVL_bwd2 hf us _ hb.2 h2⟩
end
section
variable {A : Nat → Prop} {σ σs : Sig} {η : Nat → Value} {w : World} {ks : List Nat}
def A2 (A : Nat → Prop) (σ : Sig) (η : Nat → Value) (ks : List Nat) : Nat → Prop := fun b => A b ∨ Owned η (killAt ks 0 σ) b
theorem sub2_get (hk : ks.map (fun k => σ[k]?) = σs.map (fun o => some (o.ren ks 0))) {i k : Nat} (hi : ks[i]? = some k) : ∃ o, σ[k]? = some (o.ren ks 0) ∧ σs[i]? = some o ∧ k < σ.length := by
 have h := congrArg (·[i]?) hk
 simp only [List.getElem?_map, hi, Option.map_some] at h
 cases hs : σs[i]? with
 | none => rw [hs] at h; simp at h
 | some o => rw [hs] at h; simp at h; exact ⟨o, h, rfl, (List.getElem?_eq_some_iff.1 h).1⟩
theorem sub2_len (hk : ks.map (fun k => σ[k]?) = σs.map (fun o => some (o.ren ks 0))) : ks.length = σs.length := by simpa using congrArg List.length hk
theorem sub2_some (hk : ks.map (fun k => σ[k]?) = σs.map (fun o => some (o.ren ks 0))) {i : Nat} {o : Obj} (hs : σs[i]? = some o) : ∃ k, ks[i]? = some k ∧ σ[k]? = some (o.ren ks 0) := by
 have hl := sub2_len hk
 have hi : i < ks.length := by rw [hl]; exact (List.getElem?_eq_some_iff.1 hs).1
 obtain ⟨o', h1, h2, _⟩ := sub2_get hk (List.getElem?_eq_getElem hi)
 rw [hs] at h2; cases h2
 exact ⟨_, List.getElem?_eq_getElem hi, h1⟩
theorem own_split (hk : ks.map (fun k => σ[k]?) = σs.map (fun o => some (o.ren ks 0))) (b : Nat) : Owned η σ b ↔ Owned (fun i => η (ks.getD i 0)) σs b ∨ Owned η (killAt ks 0 σ) b := by
 constructor
 ·rintro ⟨j, o, h1, h2, h3⟩
  by_cases hj : j ∈ ks
  ·obtain ⟨i, hi⟩ := List.getElem?_of_mem hj
   obtain ⟨o', h4, h5, _⟩ := sub2_get hk hi
   rw [h1] at h4; cases h4
   refine .inl ⟨i, o', h5, fun e => h2 (Obj.ren_dead.2 e), ?_⟩
   show homeBlock (η (ks.getD i 0)) = some b; rw [sub_home (η := η) hi]; exact h3
  ·exact .inr ⟨j, o, by rw [kill_get, if_neg hj]; exact h1, h2, h3⟩
 ·rintro (⟨i, o, h1, h2, h3⟩ | ⟨j, o, h1, h2, h3⟩)
  ·obtain ⟨k, h4, h5⟩ := sub2_some hk h1
   exact ⟨k, _, h5, fun e => h2 (Obj.ren_dead.1 e), by rw [← sub_home (η := η) h4]; exact h3⟩
  ·rw [kill_get] at h1
   split at h1
   ·cases hj : σ[j]? with
    | none => rw [hj] at h1; simp at h1
    | some o' => rw [hj] at h1; simp at h1; exact absurd h1.symm h2
   ·exact ⟨j, o, h1, h2, h3⟩
theorem mem_split (hk : ks.map (fun k => σ[k]?) = σs.map (fun o => some (o.ren ks 0))) : mem (A2 A σ η ks) (fun i => η (ks.getD i 0)) σs w = mem A η σ w := by
 funext b o v
 simp only [mem, eq_iff_iff, own_split (η := η) hk b, A2]
 constructor
 ·rintro ⟨h1, h2, h3⟩; exact ⟨fun h => h1 (.inl h), fun h => h.elim h2 (fun h => h1 (.inr h)), h3⟩
 ·rintro ⟨h1, h2, h3⟩; exact ⟨fun h => h.elim h1 (fun h => h2 (.inr h)), fun h => h2 (.inl h), h3⟩
theorem sub2_hf (hk : ks.map (fun k => σ[k]?) = σs.map (fun o => some (o.ren ks 0))) : ∀ i, i < σs.length → η (ren ks 0 i) = η (ks.getD i 0) ∧ ∀ e es l, σs[i]? = some (.arr e es l) → σ[ren ks 0 i]? = some (.arr e es l) := fun i hi => by
 have hi' : i < ks.length := by rw [sub2_len hk]; exact hi
 obtain ⟨o, h1, h2, _⟩ := sub2_get hk (List.getElem?_eq_getElem hi')
 have e : ren ks 0 i = ks[i] := by simp [ren, hi', List.getD_eq_getElem?_getD]
 refine ⟨by rw [e, sub_home (η := η) (List.getElem?_eq_getElem hi')], fun e' es l hl => ?_⟩
 rw [h2] at hl; cases hl
 rw [e, h1]; rfl
theorem kill2_one (hs : SigRel A σ η w) (hk : ks.map (fun k => σ[k]?) = σs.map (fun o => some (o.ren ks 0))) {b : Nat} (h1 : Owned (fun i => η (ks.getD i 0)) σs b) (h2 : Owned η (killAt ks 0 σ) b) : False := by
 obtain ⟨i, o, g1, g2, g3⟩ := h1
 obtain ⟨j, q, f1, f2, f3⟩ := h2
 obtain ⟨k, g4, g5⟩ := sub2_some hk g1
 have g3' : homeBlock (η k) = some b := by rw [← sub_home (η := η) g4]; exact g3
 rw [kill_get] at f1
 split at f1
 ·cases hj : σ[j]? with
  | none => rw [hj] at f1; simp at f1
  | some o' => rw [hj] at f1; simp at f1; exact f2 f1.symm
 ·rename_i hj
  have := hs.inj k j _ _ b g5 (fun e => g2 (Obj.ren_dead.1 e)) f1 f2 g3' f3
  subst this
  exact hj (List.mem_of_getElem? g4)
theorem sub2_sig (hs : SigRel A σ η w) (hn : ks.Nodup) (hk : ks.map (fun k => σ[k]?) = σs.map (fun o => some (o.ren ks 0))) (hb : σs.all (Obj.bndO σs.length) = true) : SigRel (A2 A σ η ks) σs (fun i => η (ks.getD i 0)) w where
 objs i o ho := by
  rw [mem_split hk]
  obtain ⟨k, h1, h2⟩ := sub2_some hk ho
  have hr := hs.objs k _ h2
  have hη : η (ks.getD i 0) = η k := sub_home h1
  rw [List.all_eq_true] at hb
  have hbo := hb o (List.mem_of_getElem? ho)
  cases o with
  | dead => trivial
  | cells cs =>
   simp only [Obj.ren, ObjRel] at hr ⊢
   obtain ⟨b, c, e, e1, e2, e3⟩ := hr
   exact ⟨b, c, e, by rw [hη, e1], e2, renL_bwd2 (sub2_hf hk) cs _ (by simpa [Obj.bndO] using hbo) e3⟩
  | arr e es l => simp only [Obj.ren, ObjRel] at hr ⊢; obtain ⟨hbl, xs, e1, e2, e3⟩ := hr; exact ⟨hbl, xs, by rw [hη]; exact e1, e2, e3⟩
  | map l => simp only [Obj.ren, ObjRel] at hr ⊢; obtain ⟨r, en, cl, e1, e2, e3⟩ := hr; exact ⟨r, en, cl, by rw [hη, e1], e2, e3⟩
  | raw p cs => simp only [Obj.ren, ObjRel] at hr ⊢; obtain ⟨b, o, e1, e2, e3, e4⟩ := hr; exact ⟨b, o, by rw [hη, e1], e2, e3, renVL_bwd2 (sub2_hf hk) cs _ (by simpa [Obj.bndO] using hbo) e4⟩
 inj i i' o o' b h1 d1 h2 d2 b1 b2 := by
  obtain ⟨k, h3, h4⟩ := sub2_some hk h1
  obtain ⟨k', h5, h6⟩ := sub2_some hk h2
  have b1' : homeBlock (η k) = some b := by rw [← sub_home (η := η) h3]; exact b1
  have b2' : homeBlock (η k') = some b := by rw [← sub_home (η := η) h5]; exact b2
  have := hs.inj k k' _ _ b h4 (fun e => d1 (Obj.ren_dead.1 e)) h6 (fun e => d2 (Obj.ren_dead.1 e)) b1' b2'
  subst this
  exact nodup_inj hn h3 h5
 out b hb' := by
  have h1 := hs.out b ((own_split hk b).2 (.inl hb'))
  exact ⟨fun h => h.elim h1.1 (fun h => kill2_one hs hk hb' h), h1.2⟩
 bound b hb' := hb'.elim (hs.bound b) (fun h => (hs.out b ((own_split hk b).2 (.inr h))).2)
theorem gcall_nxt2 {m : Nat} {σs' : Sig} {η1 : Nat → Value} {w' : World} (hs : SigRel A σ η w) (hn : ks.Nodup) (hk : ks.map (fun k => σ[k]?) = σs.map (fun o => some (o.ren ks 0))) (hpl : σs.all Obj.live = true) {r0 : V}
  {v : Value} (h1 : SigRel (A2 A σ η ks) σs' η1 w') (h2 : RelV (mem (A2 A σ η ks) η1 σs' w') σs' η1 r0 v) (h3 : Trans σs.length σs (fun i => η (ks.getD i 0)) w σs' η1 w') :
  Nxt m A σ η w (r0.ren ks σ.length) v (putAll σ ks (σs'.map (Obj.ren ks σ.length))) (backη η η1 ks σ.length) w' := by
 have hl := sub2_len hk
 rw [List.all_eq_true] at hpl
 have kept : ∀ i, i < σs.length → i < σs'.length := by
  intro i hi
  have hg := List.getElem?_eq_getElem hi
  have : ∃ o, σs'[i]? = some o := by
   cases ho : σs[i] with
   | dead => rw [ho] at hg; exact ⟨_, h3.gone i hi hg⟩
   | cells cs => rw [ho] at hg; obtain ⟨⟨cs', h⟩, _⟩ := h3.box i cs hi hg; exact ⟨_, h⟩
   | arr e es l => rw [ho] at hg; rcases h3.row i e es l hi hg with h | ⟨l', h, _⟩ <;> exact ⟨_, h⟩
   | map l => rw [ho] at hg; obtain ⟨⟨l', h⟩, _⟩ := h3.map i l hi hg; exact ⟨_, h⟩
   | raw p cs => rw [ho] at hg; obtain ⟨⟨p', l', h⟩, _⟩ := h3.raw i p cs hi hg; exact ⟨_, h⟩
  obtain ⟨o, ho⟩ := this
  exact (List.getElem?_eq_some_iff.1 ho).1
 have hle0 : ks.length ≤ σs'.length := by
  rw [hl]
  by_cases h0 : σs.length = 0
  ·omega
  ·have := kept (σs.length - 1) (by omega); omega
 have hle : ks.length ≤ (σs'.map (Obj.ren ks σ.length)).length := by simpa using hle0
 have hlen := putAll_len (σ := σ) hle
 rw [List.length_map] at hlen
 have old : ∀ j, j < σ.length → j ∉ ks → (putAll σ ks (σs'.map (Obj.ren ks σ.length)))[j]? = σ[j]? ∧ backη η η1 ks σ.length j = η j := fun j hj hm => ⟨putAll_old hle hm hj, by simp [backη, hj, hm]⟩
 have at_ : ∀ {i k : Nat}, ks[i]? = some k → k < σ.length → (putAll σ ks (σs'.map (Obj.ren ks σ.length)))[k]? = (σs'[i]?).map (Obj.ren ks σ.length) := fun {i k} hi hkl => by
  rw [putAll_at hle hn hi hkl, List.getElem?_map]
 have fnew : ∀ i, i < σs'.length → ren ks σ.length i < (putAll σ ks (σs'.map (Obj.ren ks σ.length))).length ∧ backη η η1 ks σ.length (ren ks σ.length i) = η1 i ∧ (putAll σ ks (σs'.map (Obj.ren ks σ.length)))[ren ks σ.length i]? = (σs'[i]?).map (Obj.ren ks σ.length) := by
  intro i hi
  by_cases hik : i < ks.length
  ·have hg := List.getElem?_eq_getElem hik
   obtain ⟨o, g1, g2, g3⟩ := sub2_get hk hg
   have e : ren ks σ.length i = ks[i] := by simp [ren, hik, List.getD_eq_getElem?_getD]
   rw [e]
   exact ⟨by rw [hlen]; omega, back_home hn hg g3, at_ hg g3⟩
  ·have e : ren ks σ.length i = σ.length + (i - ks.length) := by simp [ren, hik]
   rw [e]
   refine ⟨by rw [hlen]; omega, ?_, by rw [putAll_new hle, show ks.length + (i - ks.length) = i by omega, List.getElem?_map]⟩
   simp only [backη]
   rw [if_neg (by omega), show ks.length + (σ.length + (i - ks.length) - σ.length) = i by omega]
 have fren : ∀ i, i < σs'.length → ren ks σ.length i < (putAll σ ks (σs'.map (Obj.ren ks σ.length))).length ∧ backη η η1 ks σ.length (ren ks σ.length i) = η1 i ∧ ∀ e es l, (putAll σ ks (σs'.map (Obj.ren ks σ.length)))[ren ks σ.length i]? = some (.arr e es l) → σs'[i]? = some (.arr e es l) := fun i hi => by
  obtain ⟨a1, a2, a3⟩ := fnew i hi
  refine ⟨a1, a2, fun e es l hh => ?_⟩
  rw [a3, List.getElem?_eq_getElem hi] at hh
  rw [List.getElem?_eq_getElem hi]
  cases ho : σs'[i] <;> rw [ho] at hh <;> simp [Obj.ren] at hh ⊢
  exact hh
 have cls : ∀ j o, (putAll σ ks (σs'.map (Obj.ren ks σ.length)))[j]? = some o → (j < σ.length ∧ j ∉ ks ∧ σ[j]? = some o ∧ backη η η1 ks σ.length j = η j) ∨ (∃ i q, σs'[i]? = some q ∧ o = q.ren ks σ.length ∧ backη η η1 ks σ.length j = η1 i ∧ ren ks σ.length i = j) := by
  intro j o hj
  have hjl := (List.getElem?_eq_some_iff.1 hj).1
  by_cases hjn : j < σ.length
  ·by_cases hm : j ∈ ks
   ·obtain ⟨i, hi⟩ := List.getElem?_of_mem hm
    have hi2 := (List.getElem?_eq_some_iff.1 hi).1
    rw [at_ hi hjn] at hj
    cases hq : σs'[i]? with
    | none => rw [hq] at hj; simp at hj
    | some q =>
     rw [hq] at hj; simp at hj
     refine .inr ⟨i, q, hq, hj.symm, back_home hn hi hjn, ?_⟩
     simp only [ren, if_pos hi2, List.getD_eq_getElem?_getD, hi, Option.getD_some]
   ·exact .inl ⟨hjn, hm, by rw [← (old j hjn hm).1]; exact hj, (old j hjn hm).2⟩
  ·have e : (putAll σ ks (σs'.map (Obj.ren ks σ.length)))[σ.length + (j - σ.length)]? = (σs'[ks.length + (j - σ.length)]?).map (Obj.ren ks σ.length) := by rw [putAll_new hle, List.getElem?_map]
   rw [show σ.length + (j - σ.length) = j by omega, hj] at e
   cases hq : σs'[ks.length + (j - σ.length)]? with
   | none => rw [hq] at e; simp at e
   | some q =>
    rw [hq] at e; simp at e
    refine .inr ⟨ks.length + (j - σ.length), q, hq, e, ?_, ?_⟩
    ·simp [backη, hjn]
    ·simp only [ren]; rw [if_neg (by omega)]; omega
 have own2 : ∀ b, Owned (backη η η1 ks σ.length) (putAll σ ks (σs'.map (Obj.ren ks σ.length))) b ↔ Owned η (killAt ks 0 σ) b ∨ Owned η1 σs' b := by
  intro b
  constructor
  ·rintro ⟨j, o, hj, hd, hb⟩
   rcases cls j o hj with ⟨c1, c2, c3, c4⟩ | ⟨i, q, c1, c2, c3, c4⟩
   ·rw [c4] at hb; exact .inl ⟨j, o, by rw [kill_get, if_neg c2]; exact c3, hd, hb⟩
   ·rw [c3] at hb; exact .inr ⟨i, q, c1, fun e => hd (by rw [c2, e]; rfl), hb⟩
  ·rintro (⟨j, o, hj, hd, hb⟩ | ⟨i, q, hi, hd, hb⟩)
   ·rw [kill_get] at hj
    split at hj
    ·cases hq : σ[j]? with
     | none => rw [hq] at hj; simp at hj
     | some o' => rw [hq] at hj; simp at hj; exact absurd hj.symm hd
    ·rename_i hm
     have hjl := (List.getElem?_eq_some_iff.1 hj).1
     exact ⟨j, o, by rw [(old j hjl hm).1]; exact hj, hd, by rw [(old j hjl hm).2]; exact hb⟩
   ·obtain ⟨a1, a2, a3⟩ := fnew i (List.getElem?_eq_some_iff.1 hi).1
    exact ⟨ren ks σ.length i, q.ren ks σ.length, by rw [a3, hi]; rfl, fun e => hd (Obj.ren_dead.1 e), by rw [a2]; exact hb⟩
 have ownb : ∀ b, Owned η1 σs' b → Owned η σ b ∨ w.heap.size ≤ b := fun b hb => (h3.own b hb).imp (fun h => (own_split hk b).2 (.inl h)) id
 have own3 : ∀ b, Owned (backη η η1 ks σ.length) (putAll σ ks (σs'.map (Obj.ren ks σ.length))) b → Owned η σ b ∨ w.heap.size ≤ b := fun b hb => by
  rcases (own2 b).1 hb with h | h
  ·exact .inl ((own_split hk b).2 (.inr h))
  ·exact ownb b h
 have hmem : mem A (backη η η1 ks σ.length) (putAll σ ks (σs'.map (Obj.ren ks σ.length))) w' = mem (A2 A σ η ks) η1 σs' w' := by
  funext b o v
  simp only [mem, eq_iff_iff, own2 b, A2]
  constructor
  ·rintro ⟨q1, q2, q3⟩; exact ⟨fun h => h.elim q1 (fun h => q2 (.inl h)), fun h => q2 (.inr h), q3⟩
  ·rintro ⟨q1, q2, q3⟩; exact ⟨fun h => q1 (.inl h), fun h => h.elim (fun h => q1 (.inr h)) q2, q3⟩
 have hkeepW : ∀ b, b < w.heap.size → ¬ Owned (fun i => η (ks.getD i 0)) σs b → w'.heap[b]? = w.heap[b]? := h3.keep
 have other : ∀ j o, j ∉ ks → σ[j]? = some o → o ≠ .dead → ∀ b, homeBlock (η j) = some b → ¬ Owned (fun i => η (ks.getD i 0)) σs b := fun j o hj ho hd b hb h =>
  kill2_one hs hk h ⟨j, o, by rw [kill_get, if_neg hj]; exact ho, hd, hb⟩
 have fate : ∀ (i k : Nat), ks[i]? = some k → (∀ cs, σ[k]? = some (.cells cs) → (∃ cs', (putAll σ ks (σs'.map (Obj.ren ks σ.length)))[k]? = some (.cells cs')) ∧ backη η η1 ks σ.length k = η k) ∧ (∀ l, σ[k]? = some (.map l) → (∃ l', (putAll σ ks (σs'.map (Obj.ren ks σ.length)))[k]? = some (.map l')) ∧ backη η η1 ks σ.length k = η k) ∧
   (∀ (e : TypeId) (es : Nat) (l : List D), σ[k]? = some (.arr e es l) → RowK (putAll σ ks (σs'.map (Obj.ren ks σ.length))) η (backη η η1 ks σ.length) k e es l) ∧ σ[k]? ≠ some .dead ∧ (∀ p cs, σ[k]? = some (.raw p cs) → (∃ p' cs', (putAll σ ks (σs'.map (Obj.ren ks σ.length)))[k]? = some (.raw p' cs')) ∧ backη η η1 ks σ.length k = η k) := by
  intro i k hi
  obtain ⟨o, g1, g2, g3⟩ := sub2_get hk hi
  have hi' : i < σs.length := (List.getElem?_eq_some_iff.1 g2).1
  have e1 := at_ hi g3
  have e2 := back_home (η := η) (η1 := η1) hn hi g3
  have e3 : η (ks.getD i 0) = η k := sub_home hi
  refine ⟨fun cs hc => ?_, fun l hc => ?_, fun e es l hc => ?_, fun hc => ?_, fun p cs hc => ?_⟩
  ·rw [g1] at hc
   cases o <;> simp [Obj.ren] at hc
   obtain ⟨⟨cs', q1⟩, q2⟩ := h3.box i _ hi' g2
   exact ⟨⟨_, by rw [e1, q1]; rfl⟩, by rw [e2, q2]; exact e3⟩
  ·rw [g1] at hc
   cases o <;> simp [Obj.ren] at hc
   obtain ⟨⟨cs', q1⟩, q2⟩ := h3.map i _ hi' g2
   exact ⟨⟨_, by rw [e1, q1]; rfl⟩, by rw [e2, q2]; exact e3⟩
  ·rw [g1] at hc
   cases o <;> simp [Obj.ren] at hc
   obtain ⟨rfl, rfl, rfl⟩ := hc
   rcases h3.row i _ _ _ hi' g2 with q | ⟨l', q1, q2⟩
   ·exact .inl (by rw [e1, q]; rfl)
   ·refine .inr ⟨l', by rw [e1, q1]; rfl, q2.imp id (fun ⟨q3, q4⟩ => ⟨q3, by rw [e2, q4]; exact e3⟩)⟩
  ·rw [g1] at hc
   have : o = .dead := Obj.ren_dead.1 (Option.some.inj hc)
   subst this
   have := hpl _ (List.mem_of_getElem? g2)
   simp [Obj.live] at this
  ·rw [g1] at hc
   cases o <;> simp [Obj.ren] at hc
   obtain ⟨⟨p', cs', q1⟩, q2⟩ := h3.raw i _ _ hi' g2
   exact ⟨⟨_, _, by rw [e1, q1]; rfl⟩, by rw [e2, q2]; exact e3⟩
 have hcell : ∀ b o v, ¬ Owned η σ b → w.cell? ⟨b, o, none⟩ = some v → w'.cell? ⟨b, o, none⟩ = some v := fun b o1 y hno hc => by
  rw [cell_of_heap (hkeepW b (lt_of_cell hc) (fun h => hno ((own_split hk b).2 (.inl h)))), hc]
 have hkeep : Keeps (mem A η σ w) σ η (mem A (backη η η1 ks σ.length) (putAll σ ks (σs'.map (Obj.ren ks σ.length))) w') (putAll σ ks (σs'.map (Obj.ren ks σ.length))) (backη η η1 ks σ.length) := by
  refine ⟨fun b o1 y ⟨q1, q2, q3⟩ => ⟨q1, fun h => ?_, hcell b o1 y q2 q3⟩, by rw [hlen]; omega, fun k hkl => ?_⟩
  ·rcases own3 b h with h | h
   ·exact q2 h
   ·have := lt_of_cell q3; omega
  ·by_cases hm : k ∈ ks
   ·obtain ⟨i, hi⟩ := List.getElem?_of_mem hm
    obtain ⟨f1, f2, f3, f4, f5⟩ := fate i k hi
    have hg := List.getElem?_eq_getElem hkl
    cases ho : σ[k] with
    | dead => rw [ho] at hg; exact absurd hg f4
    | cells cs =>
     rw [ho] at hg
     obtain ⟨⟨cs', q1⟩, q2⟩ := f1 cs hg
     exact .inl ⟨q2, fun e es l' hl' => by rw [q1] at hl'; cases hl'⟩
    | map l =>
     rw [ho] at hg
     obtain ⟨⟨cs', q1⟩, q2⟩ := f2 l hg
     exact .inl ⟨q2, fun e es l' hl' => by rw [q1] at hl'; cases hl'⟩
    | raw p cs =>
     rw [ho] at hg
     obtain ⟨⟨p', cs', q1⟩, q2⟩ := f5 p cs hg
     exact .inl ⟨q2, fun e es l' hl' => by rw [q1] at hl'; cases hl'⟩
    | arr e es l =>
     rw [ho] at hg
     have hnotp : (∀ a, η k ≠ .pointer a) ∧ (∀ r, η k ≠ .map r) := by
      have := hs.objs k _ hg
      simp only [ObjRel] at this
      obtain ⟨hbl, xs, hx, _⟩ := this
      rcases hx.2 with ⟨e, _⟩ | ⟨g, c, cur, e, _⟩ <;> rw [e] <;> simp
     rcases f3 e es l hg with q | ⟨l', q1, q2 | ⟨q2, q3⟩⟩
     ·exact .inr (.inr ⟨q, hnotp.1, hnotp.2⟩)
     ·exact .inr (.inl ⟨e, es, l, l', hg, q1, q2, hnotp.1, hnotp.2⟩)
     ·exact .inl ⟨q3, fun e' es' l'' hl' => by rw [q1] at hl'; cases hl'; exact ⟨l, hg, q2.symm⟩⟩
   ·obtain ⟨q1, q2⟩ := old k hkl hm
    exact .inl ⟨q2, fun e es l' hl' => ⟨l', by rw [← q1]; exact hl', rfl⟩⟩
 refine ⟨⟨fun j o hj => ?_, fun j j' o o' b g1 d1 g2 d2 b1 b2 => ?_, fun b hb => ?_, fun b hb => h1.bound b (.inl hb)⟩, hkeep, by rw [hmem]; exact ren_fwd2 fren r0 v h2, ⟨h3.os, h3.tape, h3.output, h3.size, fun b hb hno => hkeepW b hb (fun h => hno ((own_split hk b).2 (.inl h))), own3, fun k cs _ hc => ?_, fun k l _ hc => ?_, fun k e es l _ hc => ?_, fun k _ hc => ?_, fun k p cs _ hc => ?_⟩⟩
 ·rcases cls j o hj with ⟨c1, c2, c3, c4⟩ | ⟨i, q, c1, c2, c3, c4⟩
  ·by_cases hd : o = .dead
   ·subst hd; trivial
   ·exact objRel_keep hkeep c4 (fun b hb => hkeepW b (hs.out b ⟨j, o, c3, hd, hb⟩).2 (other j o c2 c3 hd b hb)) h3.size (hs.objs j o c3)
  ·have hr := h1.objs i q c1
   rw [hmem]
   subst c2
   cases q with
   | dead => trivial
   | cells cs => simp only [Obj.ren, ObjRel] at hr ⊢; obtain ⟨b, c, e, e1, e2, e3⟩ := hr; exact ⟨b, c, e, by rw [c3, e1], e2, renL_fwd2 fren cs _ e3⟩
   | arr e es l => simp only [Obj.ren, ObjRel] at hr ⊢; obtain ⟨hbl, xs, e1, e2, e3⟩ := hr; exact ⟨hbl, xs, by rw [c3]; exact e1, e2, e3⟩
   | map l => simp only [Obj.ren, ObjRel] at hr ⊢; obtain ⟨r, en, cl, e1, e2, e3⟩ := hr; exact ⟨r, en, cl, by rw [c3, e1], e2, e3⟩
   | raw p cs => simp only [Obj.ren, ObjRel] at hr ⊢; obtain ⟨b, o, e1, e2, e3, e4⟩ := hr; exact ⟨b, o, by rw [c3, e1], e2, e3, renVL_fwd2 fren cs _ e4⟩
 ·have mix : ∀ {j : Nat} {o : Obj} {i : Nat} {o' : Obj}, j ∉ ks → σ[j]? = some o → o ≠ .dead → homeBlock (η j) = some b → σs'[i]? = some o' → o' ≠ .dead → homeBlock (η1 i) = some b → False := fun {j o i o'} q1 q2 q3 q4 q5 q6 q7 => by
   rcases h3.own b ⟨i, o', q5, q6, q7⟩ with h | h
   ·exact other j o q1 q2 q3 b q4 h
   ·have := (hs.out b ⟨j, o, q2, q3, q4⟩).2; omega
  rcases cls j o g1 with ⟨c1, c2, c3, c4⟩ | ⟨i, q, c1, c2, c3, c4⟩ <;> rcases cls j' o' g2 with ⟨c5, c6, c7, c8⟩ | ⟨i', q', c5, c6, c7, c8⟩
  ·rw [c4] at b1; rw [c8] at b2
   exact hs.inj j j' o o' b c3 d1 c7 d2 b1 b2
  ·rw [c4] at b1; rw [c7] at b2
   exact (mix c2 c3 d1 b1 c5 (fun e => d2 (by rw [c6, e]; rfl)) b2).elim
  ·rw [c3] at b1; rw [c8] at b2
   exact (mix c6 c7 d2 b2 c1 (fun e => d1 (by rw [c2, e]; rfl)) b1).elim
  ·rw [c3] at b1; rw [c7] at b2
   rw [← c4, ← c8, h1.inj i i' q q' b c1 (fun e => d1 (by rw [c2, e]; rfl)) c5 (fun e => d2 (by rw [c6, e]; rfl)) b1 b2]
 ·rcases (own2 b).1 hb with h | h
  ·have := hs.out b ((own_split hk b).2 (.inr h))
   exact ⟨this.1, Nat.lt_of_lt_of_le this.2 h3.size⟩
  ·have := h1.out b h
   exact ⟨fun ha => this.1 (.inl ha), this.2⟩
 all_goals
  have hkl : k < σ.length := (List.getElem?_eq_some_iff.1 hc).1
  by_cases hm : k ∈ ks
 ·obtain ⟨i, hi⟩ := List.getElem?_of_mem hm
  exact (fate i k hi).1 cs hc
 ·obtain ⟨q1, q2⟩ := old k hkl hm
  exact ⟨⟨cs, by rw [q1]; exact hc⟩, q2⟩
 ·obtain ⟨i, hi⟩ := List.getElem?_of_mem hm
  exact (fate i k hi).2.1 l hc
 ·obtain ⟨q1, q2⟩ := old k hkl hm
  exact ⟨⟨l, by rw [q1]; exact hc⟩, q2⟩
 ·obtain ⟨i, hi⟩ := List.getElem?_of_mem hm
  exact (fate i k hi).2.2.1 e es l hc
 ·obtain ⟨q1, q2⟩ := old k hkl hm
  exact .inr ⟨l, by rw [q1]; exact hc, .inr ⟨rfl, q2⟩⟩
 ·obtain ⟨i, hi⟩ := List.getElem?_of_mem hm
  exact absurd hc (fate i k hi).2.2.2.1
 ·obtain ⟨q1, q2⟩ := old k hkl hm
  rw [q1]; exact hc
 ·obtain ⟨i, hi⟩ := List.getElem?_of_mem hm
  exact (fate i k hi).2.2.2.2 p cs hc
 ·obtain ⟨q1, q2⟩ := old k hkl hm
  exact ⟨⟨p, cs, by rw [q1]; exact hc⟩, q2⟩
end
end Go.VM
