/-
  Proved: BargainTwoNodesUptoSaid, for every input whose bulk is at most 1048576 values; no further condition. (This text is one part of the proof.)
-/
import Derived.Test.YthegffpdongaoaaGreatV04
import Derived.Test.YthegffpdongaoaaGreatV00
import Derived.Carry
import Derived.ChangeArms
import Derived.ChangeSame
import Derived.RowKit
import Derived.Deep.Slices
import Derived.OpenShut
import Derived.Test.YthegffpdongaoaaGreatRows
import Derived.JoinedCond
set_option linter.unusedVariables false
set_option linter.unusedSimpArgs false
set_option linter.unusedSectionVars false
namespace Go.VM
open Go.RowKit Go.ChangeShapes Go.WideShapes
structure BulkOk {H : Type} (bk : DataW H → Nat) (ba : List (DataW H) → Nat) : Prop where
 slice : ∀ e s, ba e + 1 ≤ bk (.slice e s)
 agg : ∀ e, ba e ≤ bk (.agg e)
 mem : ∀ d l, d ∈ l → bk d ≤ ba l
 len : ∀ l, l.length ≤ ba l
section
variable {H : Type} {enc : TypeId × Value → H} {P : Program} {W : World} {M : Mem} {bk : DataW H → Nat} {ba : List (DataW H) → Nat}
def Reads (M : Mem) (W : World) : Prop := ∀ b o v, W.cell? ⟨b, o, none⟩ = some v → M b o v
def Rd (enc : TypeId × Value → H) (P : Program) (W : World) (M : Mem) (bk : DataW H → Nat) (t : TypeId) (n : Nat) {X : Type} (f : X → List D) (Q : X → Prop) : Prop :=
 ∀ (fuel : Nat) (cs : List Value) (x : DataW H × List MemPlace), DataW.trod enc P W 0 (fun _ => true) true fuel t cs = some x → bk x.1 ≤ 1048576 → cs.length = n ∧ ∃ y : X, RelC M (f y) cs ∧ Q y
theorem Rd.map {t : TypeId} {n : Nat} {X Y : Type} {f : X → List D} {Q : X → Prop} (g : X → Y) {f' : Y → List D} {Q' : Y → Prop} (h : Rd enc P W M bk t n f Q) (hf : ∀ x, f' (g x) = f x) (hq : ∀ x, Q x → Q' (g x)) : Rd enc P W M bk t n f' Q' := fun fuel cs x hx hb => by
 obtain ⟨h1, y, h2, h3⟩ := h fuel cs x hx hb
 exact ⟨h1, g y, by rw [hf]; exact h2, hq y h3⟩
theorem rd_int {t : TypeId} {k : IntKind} (hu : P.underlying t = some (.int k)) : Rd enc P W M bk t 1 (fun n : Int => [.lit (.int k n)]) (fun n => (Lit.int k n).wf = true) := fun fuel cs x hx _ => by
 obtain ⟨n, rfl, _, h⟩ := DataW.trod_int hu hx
 exact ⟨rfl, n, by simp [RelC, D.one, Rel, Value.oneCell'], h⟩
theorem rd_bool {t : TypeId} (hu : P.underlying t = some .bool) : Rd enc P W M bk t 1 (fun b : Bool => [.lit (.bool b)]) (fun _ => True) := fun fuel cs x hx _ => by
 obtain ⟨b, rfl, _⟩ := DataW.trod_bool hu hx
 exact ⟨rfl, b, by simp [RelC, D.one, Rel, Value.oneCell'], trivial⟩
theorem choose_list {X : Type} {n : Nat} {R : Nat → X → Prop} (h : ∀ i, i < n → ∃ x, R i x) : ∃ l : List X, l.length = n ∧ ∀ i x, l[i]? = some x → R i x := by
 induction n with
 | zero => exact ⟨[], rfl, fun i x hx => by simp at hx⟩
 | succ n ih =>
  obtain ⟨l, h1, h2⟩ := ih fun i hi => h i (by omega)
  obtain ⟨x, hx⟩ := h n (by omega)
  refine ⟨l ++ [x], by simp [h1], fun i y hy => ?_⟩
  by_cases hi : i < l.length
  ·rw [List.getElem?_append_left hi] at hy; exact h2 i y hy
  ·rw [List.getElem?_append_right (by omega)] at hy
   have : i = n := by
    have := (List.getElem?_eq_some_iff.1 hy).1
    simp at this; omega
   subst this
   simp [h1] at hy
   subst hy; exact hx
theorem rd_slice (hB : BulkOk bk ba) (hM : Reads M W) {t e : TypeId} {es : Nat} {X : Type} {f : X → List D} {Q : X → Prop} (encE : X → D) (hu : P.underlying t = some (.slice e)) (hc : P.cellsOf e = es) (h0 : 0 < es) (h : Rd enc P W M bk e es f Q) (he : ∀ x, (encE x).cells = f x) :
  Rd enc P W M bk t 1 (fun l : List X => [.list es (l.map encE)]) (fun l => l.length ≤ 1048576 ∧ ∀ x ∈ l, Q x) := fun fuel cs x hx hb => by
 rcases DataW.trod_slice hu hx with ⟨rfl, _⟩ | ⟨a, len, cap, elems, rest, n, rfl, rfl, rfl, _, hl, hm, hlen, hel, _, _⟩
 ·exact ⟨rfl, [], by simp only [RelC, D.one, Rel, List.map_nil, List.length_nil]; exact ⟨_, [], rfl, trivial, ⟨none, 0, rfl, ⟨by omega, by omega⟩, .inl ⟨trivial, fun _ => rfl⟩⟩, rfl⟩, by simp⟩
 ·have hsl := hB.slice (elems.map (·.1)) (rest.map (·.1))
  have hle := hB.len (elems.map (·.1))
  simp only [List.length_map] at hle
  simp only at hb
  have each : ∀ i, i < len → ∃ y : X, Q y ∧ (f y).length = es ∧ ∀ (j : Nat) (d : D), (f y)[j]? = some d → d.one = true ∧ ∃ v, W.cell? ((a.add (i * es)).add j) = some v ∧ Rel M d v := fun i hi => by
   have h1 := hel i hi
   have hi' : i < elems.length := by omega
   rw [List.getElem?_eq_getElem hi', Option.bind_eq_some_iff, hc] at h1
   obtain ⟨cs', h2, h3⟩ := h1
   have hbi : bk (elems[i]).1 ≤ 1048576 := by
    have := hB.mem (elems[i]).1 (elems.map (·.1)) (List.mem_map_of_mem (List.getElem_mem hi'))
    omega
   obtain ⟨h4, y, h5, h6⟩ := h n cs' _ h3 hbi
   obtain ⟨h7, h8⟩ := relC_iff.1 h5
   refine ⟨y, h6, by omega, fun j d hj => ?_⟩
   have hj' : j < cs'.length := by have := (List.getElem?_eq_some_iff.1 hj).1; omega
   obtain ⟨h9, h10⟩ := h8 j d cs'[j] hj (List.getElem?_eq_getElem hj')
   refine ⟨h9, cs'[j], ?_, h10⟩
   have := (World.cells?_some h2).2.2 j (by omega)
   rw [this, List.getElem?_eq_getElem hj']
  obtain ⟨l, h1, h2⟩ := choose_list each
  refine ⟨rfl, l, ?_, by omega, fun x hx => ?_⟩
  ·have hll : (l.map encE).length = len := by rw [List.length_map, h1]
   simp only [RelC, D.one, Rel, hll]
   refine ⟨_, [], rfl, trivial, ⟨some a, cap, rfl, ⟨hl, by omega⟩, ?_⟩, rfl⟩
   by_cases hl0 : len = 0
   ·left; exact ⟨by rw [List.map_eq_nil_iff]; exact List.eq_nil_of_length_eq_zero (by omega), fun h => by cases h⟩
   ·right
    obtain ⟨b, o, sp⟩ := a
    have hsp : sp = none := by
     obtain ⟨y, _, h3, h4⟩ := each 0 (by omega)
     obtain ⟨d, hd⟩ : ∃ d, (f y)[0]? = some d := ⟨(f y)[0]'(by omega), List.getElem?_eq_getElem (by omega)⟩
     obtain ⟨_, v, h5, _⟩ := h4 0 d hd
     cases sp with
     | none => rfl
     | some s =>
      simp only [World.cell?, Addr.add] at h5
      split at h5 <;> simp at h5
    subst hsp
    refine ⟨b, o, rfl, ?_⟩
    rw [relRow_iff]
    intro i d hd
    simp only [List.getElem?_map, Option.map_eq_some_iff] at hd
    obtain ⟨y, hy, rfl⟩ := hd
    obtain ⟨_, h3, h4⟩ := h2 i y hy
    rw [he]
    refine ⟨h3, ?_⟩
    rw [relAt_iff]
    intro j d hj
    obtain ⟨h5, v, h6, h7⟩ := h4 j d hj
    refine ⟨h5, v, hM _ _ _ ?_, h7⟩
    rw [addr_add, addr_add] at h6
    exact h6
  ·obtain ⟨i, hi, rfl⟩ := List.getElem_of_mem hx
   exact (h2 i _ (List.getElem?_eq_getElem hi)).1
theorem arg_one {t : TypeId} {X : Type} {f : X → D} {Q : X → Prop} (h : Rd enc P W M bk t 1 (fun y => [f y]) Q) {v : Value} {d : DataW H} {ps : List MemPlace} (hv : v.cells = #[v]) (hd : DataW.Trod enc P W 0 (fun _ => true) true t v d ps) (hb : bk d ≤ 1048576) : ∃ y : X, Rel M (f y) v ∧ Q y := by
 obtain ⟨fuel, hf⟩ := hd
 rw [hv] at hf
 obtain ⟨_, y, h1, h2⟩ := h fuel _ (d, ps) hf hb
 simp only [RelC] at h1
 obtain ⟨x, r, e, _, h3, _⟩ := h1
 cases e
 exact ⟨y, h3, h2⟩
theorem cells_int {r : Reach} {base : Nat} {t : TypeId} {k : IntKind} (hu : P.underlying t = some (.int k)) {v : Value} (hval : Value.okWide P W r base t v) : v.cells = #[v] := by
 obtain ⟨n, rfl⟩ := okWide_int hu hval; rfl
theorem cells_slice {r : Reach} {base : Nat} {t e : TypeId} (hu : P.underlying t = some (.slice e)) {v : Value} (hval : Value.okWide P W r base t v) : v.cells = #[v] := by
 obtain ⟨a, l, c, rfl⟩ := okWide_slice hu hval; rfl
theorem trodAll_below (hl : laidOutB P = true) {W W' : World} (hb : Below W.heap.size W W') : ∀ {ts : List TypeId} {vs : List Value} {ds : List (DataW H)} {ps : List MemPlace}, (ts.all fun t => P.readableRec t && decide (t < P.types.size)) = true → DataW.TrodAll enc P W 0 (fun _ => true) true ts vs ds ps → (∀ x ∈ ps, x.block < W.heap.size) → DataW.TrodAll enc P W' 0 (fun b => decide (b < W.heap.size)) true ts vs ds ps
 | [], vs, ds, ps, _, h, _ => by
  obtain ⟨rfl, rfl, rfl⟩ := trodAll_nil h
  exact trodAll_mk0
 | t :: ts, vs, ds, ps, ht, h, hp => by
  obtain ⟨v, vs', d, ds', p, q, rfl, rfl, rfl, h1, h2⟩ := trodAll_cons h
  simp only [List.all_cons, Bool.and_eq_true, decide_eq_true_eq] at ht
  exact trodAll_cons_mk (Below.trod hl ht.1.1 ht.1.2 h1 hb fun x hx => hp x (by simp [hx])) (trodAll_below hl hb (by simpa using ht.2) h2 fun x hx => hp x (by simp [hx]))
theorem law_post {f : Func} {s : ChangeSpec} {W W' : World} {args : Array Value} {ds gs : List (DataW H)} {before : List MemPlace} {tb : TypeId} (hl : laidOutB P = true) (hr : (f.params.toList.all fun t => P.readableRec t && decide (t < P.types.size)) = true)
  (hvars : s.vars = []) (hfn : ∀ ds : List (DataW H), ds.length = f.params.size → s.fn H ds = { results := [.lit (.bool true)], args := ds }) (hres : f.resultTypes = #[tb]) (hb : P.underlying tb = some .bool) (hW : DataW.Whole enc P f.params.toList s.vars false W args.toList ds gs before) (hE : Ext W W') :
  s.post enc P f false true false false W args (.bool true) W' := by
 have hW' := hW
 obtain ⟨p, q, hA, hV, rfl, _, _⟩ := hW
 have hV' := hV
 rw [hvars] at hV'
 obtain ⟨rfl, rfl⟩ := trodVars_none hV'
 have hB : Below W.heap.size W W' := ⟨hE.os, hE.tape, hE.output, hE.size, hE.keep⟩
 have hlen : ∀ {ts : List TypeId} {vs : List Value} {ds : List (DataW H)} {ps : List MemPlace}, DataW.TrodAll enc P W 0 (fun _ => true) true ts vs ds ps → ds.length = ts.length := by
  intro ts
  induction ts with
  | nil => intro vs ds ps h; obtain ⟨_, rfl, _⟩ := trodAll_nil h; rfl
  | cons t ts ih => intro vs ds ps h; obtain ⟨v, vs', d, ds', p, q, rfl, rfl, rfl, _, h2⟩ := trodAll_cons h; simp [ih h2]
 have hf := hfn ds (by rw [hlen hA]; simp)
 refine ⟨ds, [], p ++ [], [], p, [], hW', ?_, ?_, ?_, hB.frame _, fun h => by cases h⟩
 ·rw [List.append_nil, hf, hres]
  exact trodAll_mk1 (shut_bool hb true)
 ·rw [List.append_nil, hf]
  exact trodAll_below hl hB hr hA fun x hx => by simpa using hW'.lt x (by simp [hx])
 ·rw [List.append_nil, hf, hvars]; rfl
end
end Go.VM
namespace Go.VM.Tryz
open Go.Proofs Go.Proofs.YthegffpdongaoaaGreat Go.RowKit Go.ChangeShapes
set_option linter.unusedVariables false
theorem bulkOk {H : Type} : BulkOk (H := H) Rows.uptoBulk Rows.uptoBulkAll where
 slice e s := by simp only [Rows.uptoBulk]; omega
 agg e := by simp only [Rows.uptoBulk]; omega
 mem d l h := by
  induction l with
  | nil => cases h
  | cons x r ih =>
   simp only [Rows.uptoBulkAll]
   rcases List.mem_cons.1 h with rfl | h
   ·omega
   ·have := ih h; omega
 len l := by
  induction l with
  | nil => simp
  | cons x r ih =>
   have : 1 ≤ Rows.uptoBulk x := by
    cases x with
    | lit l => cases l <;> simp [Rows.uptoBulk]
    | nil => simp [Rows.uptoBulk]
    | ptr d => simp [Rows.uptoBulk]
    | slice elems spare => simp [Rows.uptoBulk]
    | agg parts => simp [Rows.uptoBulk]
    | iface t d => simp [Rows.uptoBulk]
    | map entries => simp [Rows.uptoBulk]
    | held h => simp [Rows.uptoBulk]
   simp only [Rows.uptoBulkAll, List.length_cons]; omega
section
variable {H : Type} {enc : TypeId × Value → H} {W : World} {M : Mem} (hM : Reads M W)
theorem rdI : Rd enc Tryz.prog W M Rows.uptoBulk 3 1 (fun n : Int => [I n]) (fun _ => True) := (rd_int Tryz.underlying3).map (fun n => n) (fun _ => rfl) (fun _ _ => trivial)
include hM
theorem rdBytes : Rd enc Tryz.prog W M Rows.uptoBulk 48 1 (fun l : List Int => [.list 1 (l.map I_u8)]) (fun l => l.length ≤ 1048576 ∧ ∀ m ∈ l, 0 ≤ m ∧ m ≤ 255) :=
 (rd_slice bulkOk hM I_u8 Tryz.underlying48 (by kernel_rfl) (by decide) (rd_int Tryz.underlying5) (fun _ => rfl)).map (fun l => l) (fun _ => rfl) (fun _ h => ⟨h.1, fun m hm => by simpa [Lit.wf, IntKind.min, IntKind.max, IntKind.signed, IntKind.bits] using h.2 m hm⟩)
theorem rdBools : Rd enc Tryz.prog W M Rows.uptoBulk 70 1 (fun l : List Bool => [.list 1 (l.map B)]) (fun l => l.length ≤ 1048576) :=
 (rd_slice bulkOk hM B Tryz.underlying70 (by kernel_rfl) (by decide) (rd_bool Tryz.underlying4) (fun _ => rfl)).map (fun l => l) (fun _ => rfl) (fun _ h => h.1)
end
theorem own : ownKnob Tryz.prog.godebug = none := by kernel_rfl
theorem laidOut : laidOutB Tryz.prog = true := by kernel_rfl
theorem reads_memA (W : World) : Reads (memA (fun _ => False) W) W := fun b o v h => ⟨id, h⟩
set_option maxRecDepth 100000 in
theorem contract7 (H : Type) (enc : TypeId × Value → H) (W : World) (base : Nat) (args : Array Value) (ds gs : List (DataW H)) (before : List MemPlace)
  (hval : ∀ (j : Nat) t v, Tryz.f7.params[j]? = some t → args[j]? = some v → Value.okWide Tryz.prog W .any base t v)
  (hW : DataW.Whole enc Tryz.prog Tryz.f7.params.toList Rows.bargainTwoNodesSpec.vars false W args.toList ds gs before) (hk : Rows.uptoSmall H (ds ++ gs) = true) :
  Calls Tryz.prog 7 args W fun e W' => ∃ v, e = .returned v ∧ Rows.bargainTwoNodesSpec.post enc Tryz.prog Tryz.f7 false true false false W args v W' := by
 have hW' := hW
 obtain ⟨p, q, hA0, hV, rfl, hfz, hnd⟩ := hW
 obtain ⟨rfl, rfl⟩ := trodVars_none hV
 have hA : DataW.TrodAll enc Tryz.prog W 0 (fun _ => true) true Tryz.f7.params.toList args.toList ds p := hA0
 rw [Tryz.params7] at hA hval
 clear hA0
 obtain ⟨v0, vs0, d0, ds0, p0, q0, hargs, rfl, rfl, h0, r0⟩ := trodAll_cons hA
 obtain ⟨v1, vs1, d1, ds1, p1, q1, rfl, rfl, rfl, h1, r1⟩ := trodAll_cons r0
 obtain ⟨v2, vs2, d2, ds2, p2, q2, rfl, rfl, rfl, h2, r2⟩ := trodAll_cons r1
 obtain ⟨v3, vs3, d3, ds3, p3, q3, rfl, rfl, rfl, h3, r3⟩ := trodAll_cons r2
 obtain ⟨v4, vs4, d4, ds4, p4, q4, rfl, rfl, rfl, h4, r4⟩ := trodAll_cons r3
 obtain ⟨rfl, rfl, rfl⟩ := trodAll_nil r4
 obtain rfl : args = #[v0, v1, v2, v3, v4] := by cases args; simp_all
 have hbulk : ∀ d ∈ [d0, d1, d2, d3, d4], Rows.uptoBulk d ≤ 1048576 := fun d hd => by
  have h1 := bulkOk.mem d _ hd
  have h2 := of_decide_eq_true hk
  rw [List.append_nil] at h2
  exact Nat.le_trans h1 h2
 have hM := reads_memA W
 obtain ⟨y0, z0, q0⟩ := arg_one rdI (cells_int Tryz.underlying3 (hval 0 3 v0 rfl rfl)) h0 (hbulk _ (by simp))
 obtain ⟨y1, z1, q1⟩ := arg_one (rdBytes hM) (cells_slice Tryz.underlying48 (hval 1 48 v1 rfl rfl)) h1 (hbulk _ (by simp))
 obtain ⟨y2, z2, q2⟩ := arg_one (rdBools hM) (cells_slice Tryz.underlying70 (hval 2 70 v2 rfl rfl)) h2 (hbulk _ (by simp))
 obtain ⟨y3, z3, q3⟩ := arg_one (rdBools hM) (cells_slice Tryz.underlying70 (hval 3 70 v3 rfl rfl)) h3 (hbulk _ (by simp))
 obtain ⟨y4, z4, q4⟩ := arg_one rdI (cells_int Tryz.underlying3 (hval 4 3 v4 rfl rfl)) h4 (hbulk _ (by simp))
 refine (((kLaw7_ok 71 y0 y1 y2 y3 y4 true (law7_true (by omega) y0 y1 y2 y3 y4 q1.2 (by omega))).2 (fun _ => False) W [v0, v1, v2, v3, v4] (fun _ h => h.elim) ⟨_, _, rfl, z0, _, _, rfl, z1, _, _, rfl, z2, _, _, rfl, z3, _, _, rfl, z4, rfl⟩)).mono fun e W' ⟨v, he, hr, hE⟩ => ?_
 simp only [B, Rel] at hr
 subst hr
 refine ⟨_, he, law_post (P := Tryz.prog) (f := Tryz.f7) (s := Rows.bargainTwoNodesSpec) (tb := 4) laidOut (by kernel_rfl) rfl (fun ds hd => ?_) rfl Tryz.underlying4 hW' hE⟩
 have hd : ds.length = 5 := hd
 match ds, hd with
 | [a0, a1, a2, a3, a4], _ => rfl
set_option maxRecDepth 100000 in
theorem lifted7 (os : Os) (started : os.Started) (H : Type) (enc : TypeId × Value → H) (F : Stop.Interp) :
  ReturnsInHanded {} Tryz.checked os 7 .any ((Rows.OpenSpec.upto Rows.bargainTwoNodesSpec).pre6 enc Tryz.prog Tryz.f7 Rows.bargainTwoNodesUptoRow.domain false) (((Rows.OpenSpec.upto Rows.bargainTwoNodesSpec).at F).post enc Tryz.prog Tryz.f7 false true false false) := by
 refine returnsInHanded_of_cond (C := Tryz.checked) (s := Rows.OpenSpec.upto Rows.bargainTwoNodesSpec) (k := Rows.uptoSmall) rfl own started (by kernel_rfl) Tryz.func7
  (OpenSpec.witness (enc := enc) (C := Tryz.checked) (s := Rows.OpenSpec.upto Rows.bargainTwoNodesSpec) (k := Rows.uptoSmall) rfl false ⟨#[], #[.int .i64 0, .slice none 0 0, .slice none 0 0, .slice none 0 0, .int .i64 0], []⟩ 8 (by kernel_rfl) (by kernel_rfl) (by kernel_rfl)
   (x := ([.lit (.int .i64 0), .nil, .nil, .nil, .lit (.int .i64 0)], [], [])) (by kernel_rfl) rfl (by kernel_rfl)) ?_
 intro W base args ds gs before hval hW _ hk _
 exact contract7 H enc W base args ds gs before hval hW hk
theorem over7 : Rows.bargainTwoNodesUptoRow.holds Tryz.pinned (Rows.OpenSpec.upto Rows.bargainTwoNodesSpec) :=
 OpenClaim.holds_of_cond 7 Tryz.f7 rfl rfl rfl rfl rfl rfl rfl ⟨rfl, rfl, rfl, rfl, rfl⟩ rfl rfl rfl rfl rfl (by kernel_rfl) Tryz.func7 (by kernel_rfl)
  (of_decide_eq_true (by kernel_rfl)) (by unfold Func.isWrapper; first | (rw [if_pos (by decide +kernel)]; kernel_rfl) | (rw [if_neg (by decide +kernel)]; exact ⟨rfl, rfl⟩))
  (fun os started H enc _ F => lifted7 os started H enc F)
theorem proved7 : Rows.BargainTwoNodesUptoSaid := over7
end Go.VM.Tryz
namespace Go.Proofs.YthegffpdongaoaaGreat
theorem holds : Rows.BargainTwoNodesUptoSaid := Go.VM.Tryz.proved7
end Go.Proofs.YthegffpdongaoaaGreat
