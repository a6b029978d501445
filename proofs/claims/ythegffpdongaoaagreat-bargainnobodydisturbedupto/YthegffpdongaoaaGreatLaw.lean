/-
  Proved: BargainNobodyDisturbedUptoSaid, for every input whose bulk is at most 1048576 values; no further condition. (This text is one part of the proof.)
-/
import Derived.Test.YthegffpdongaoaaGreatV04
import Derived.Test.YthegffpdongaoaaGreatRows
import Derived.OpenShut
import Derived.JoinedCond
set_option linter.unusedVariables false
set_option linter.unusedSimpArgs false
set_option linter.unusedSectionVars false
namespace Go.VM.Tryz
open Go.Proofs Go.Proofs.YthegffpdongaoaaGreat Go.RowKit Go.ChangeShapes
set_option linter.unusedVariables false
theorem bulkOk {H : Type} : BulkOk (H := H) Rows.uptoBulk Rows.uptoBulkAll where
 slice e s := by simp only [Rows.uptoBulk]; omega
 agg e := by simp only [Rows.uptoBulk]; omega
 mem d l h := by
  induction l with
  | nil => cases h
  | cons x r ih =>
   simp only [Rows.uptoBulkAll]
   rcases List.mem_cons.1 h with rfl | h
   ·omega
   ·have := ih h; omega
 len l := by
  induction l with
  | nil => simp
  | cons x r ih =>
   have : 1 ≤ Rows.uptoBulk x := by
    cases x with
    | lit l => cases l <;> simp [Rows.uptoBulk]
    | nil => simp [Rows.uptoBulk]
    | ptr d => simp [Rows.uptoBulk]
    | slice elems spare => simp [Rows.uptoBulk]
    | agg parts => simp [Rows.uptoBulk]
    | iface t d => simp [Rows.uptoBulk]
    | map entries => simp [Rows.uptoBulk]
    | held h => simp [Rows.uptoBulk]
   simp only [Rows.uptoBulkAll, List.length_cons]; omega
section
variable {H : Type} {enc : TypeId × Value → H} {W : World} {M : Mem} (hM : Reads M W)
theorem rdI : Rd enc Tryz.prog W M Rows.uptoBulk 3 1 (fun n : Int => [I n]) (fun _ => True) := (rd_int Tryz.underlying3).map (fun n => n) (fun _ => rfl) (fun _ _ => trivial)
theorem rdLayout : Rd enc Tryz.prog W M Rows.uptoBulk 23 2 (fun x : Layout => (encLayout x).cells) (fun _ => True) :=
 (rd_struct bulkOk Tryz.underlying23 (by kernel_rfl) (rdF_cons rdI (by kernel_rfl) rfl (rdF_cons rdI (by kernel_rfl) rfl rdF_nil))).map (fun p => ⟨p.1, p.2.1⟩) (fun _ => rfl) (fun _ _ => trivial)
theorem rdCell : Rd enc Tryz.prog W M Rows.uptoBulk 57 2 (fun x : Cell => (encCell x).cells) (fun _ => True) :=
 (rd_struct bulkOk Tryz.underlying57 (by kernel_rfl) (rdF_cons rdI (by kernel_rfl) rfl (rdF_cons rdI (by kernel_rfl) rfl rdF_nil))).map (fun p => ⟨p.1, p.2.1⟩) (fun _ => rfl) (fun _ _ => trivial)
theorem rdUse : Rd enc Tryz.prog W M Rows.uptoBulk 61 4 (fun x : Use => (encUse x).cells) (fun _ => True) :=
 (rd_struct bulkOk Tryz.underlying61 (by kernel_rfl) (rdF_cons rdCell (by kernel_rfl) rfl (rdF_cons rdI (by kernel_rfl) rfl (rdF_cons rdI (by kernel_rfl) rfl rdF_nil)))).map (fun p => ⟨p.1, p.2.1, p.2.2.1⟩) (fun _ => rfl) (fun _ _ => trivial)
theorem rdGrant : Rd enc Tryz.prog W M Rows.uptoBulk 59 5 (fun x : Grant => (encGrant x).cells) (fun _ => True) :=
 (rd_struct bulkOk Tryz.underlying59 (by kernel_rfl) (rdF_cons rdCell (by kernel_rfl) rfl (rdF_cons rdI (by kernel_rfl) rfl (rdF_cons rdI (by kernel_rfl) rfl (rdF_cons rdI (by kernel_rfl) rfl rdF_nil))))).map (fun p => ⟨p.1, p.2.1, p.2.2.1, p.2.2.2.1⟩) (fun _ => rfl) (fun _ _ => trivial)
theorem rdAsk : Rd enc Tryz.prog W M Rows.uptoBulk 63 3 (fun x : Ask => (encAsk x).cells) (fun _ => True) :=
 (rd_struct bulkOk Tryz.underlying63 (by kernel_rfl) (rdF_cons rdCell (by kernel_rfl) rfl (rdF_cons rdI (by kernel_rfl) rfl rdF_nil))).map (fun p => ⟨p.1, p.2.1⟩) (fun _ => rfl) (fun _ _ => trivial)
include hM
theorem rdUses : Rd enc Tryz.prog W M Rows.uptoBulk 24 1 (fun l : List Use => [.list 4 (l.map encUse)]) (fun l => l.length ≤ 1048576) :=
 (rd_slice bulkOk hM encUse Tryz.underlying24 (by kernel_rfl) (by decide) rdUse (fun _ => rfl)).map (fun l => l) (fun _ => rfl) (fun _ h => h.1)
theorem rdGrants : Rd enc Tryz.prog W M Rows.uptoBulk 25 1 (fun l : List Grant => [.list 5 (l.map encGrant)]) (fun l => l.length ≤ 1048576) :=
 (rd_slice bulkOk hM encGrant Tryz.underlying25 (by kernel_rfl) (by decide) rdGrant (fun _ => rfl)).map (fun l => l) (fun _ => rfl) (fun _ h => h.1)
theorem rdAsks : Rd enc Tryz.prog W M Rows.uptoBulk 26 1 (fun l : List Ask => [.list 3 (l.map encAsk)]) (fun l => l.length ≤ 1048576) :=
 (rd_slice bulkOk hM encAsk Tryz.underlying26 (by kernel_rfl) (by decide) rdAsk (fun _ => rfl)).map (fun l => l) (fun _ => rfl) (fun _ h => h.1)
theorem rdTable : Rd enc Tryz.prog W M Rows.uptoBulk 28 3 (fun x : Table => (encTable x).cells) (fun t => t.uses.length ≤ 1048576 ∧ t.grants.length ≤ 1048576 ∧ t.asks.length ≤ 1048576) :=
 (rd_struct bulkOk Tryz.underlying28 (by kernel_rfl) (rdF_cons (rdUses hM) (by kernel_rfl) rfl (rdF_cons (rdGrants hM) (by kernel_rfl) rfl (rdF_cons (rdAsks hM) (by kernel_rfl) rfl rdF_nil)))).map (fun p => ⟨p.1, p.2.1, p.2.2.1⟩) (fun _ => rfl) (fun _ h => ⟨h.1, h.2.1, h.2.2.1⟩)
theorem rdNear : Rd enc Tryz.prog W M Rows.uptoBulk 55 31 (fun x : Near => (encNear x).cells) (fun _ => True) :=
 (rd_struct bulkOk Tryz.underlying55 (by kernel_rfl) (rdF_cons rdI (by kernel_rfl) rfl (rdF_cons (rd_struct bulkOk Tryz.underlying53 (by kernel_rfl) (rdF_cons rdI (by kernel_rfl) rfl (rdF_cons ((rd_int Tryz.underlying3).map (fun n => (D.lit (.int .i64 n))) (f' := fun d => [d]) (Q' := fun _ => True) (fun _ => rfl) (fun _ _ => trivial)) (by kernel_rfl) rfl (rdF_cons ((rd_int Tryz.underlying3).map (fun n => (D.lit (.int .i64 n))) (f' := fun d => [d]) (Q' := fun _ => True) (fun _ => rfl) (fun _ _ => trivial)) (by kernel_rfl) rfl (rdF_cons ((rd_int Tryz.underlying3).map (fun n => (D.lit (.int .i64 n))) (f' := fun d => [d]) (Q' := fun _ => True) (fun _ => rfl) (fun _ _ => trivial)) (by kernel_rfl) rfl (rdF_cons ((rd_int Tryz.underlying3).map (fun n => (D.lit (.int .i64 n))) (f' := fun d => [d]) (Q' := fun _ => True) (fun _ => rfl) (fun _ _ => trivial)) (by kernel_rfl) rfl (rdF_cons ((rd_int Tryz.underlying3).map (fun n => (D.lit (.int .i64 n))) (f' := fun d => [d]) (Q' := fun _ => True) (fun _ => rfl) (fun _ _ => trivial)) (by kernel_rfl) rfl (rdF_cons (rd_struct bulkOk Tryz.underlying39 (by kernel_rfl) (rdF_cons ((rd_int Tryz.underlying3).map (fun n => (D.lit (.int .i64 n))) (f' := fun d => [d]) (Q' := fun _ => True) (fun _ => rfl) (fun _ _ => trivial)) (by kernel_rfl) rfl (rdF_cons ((rd_int Tryz.underlying3).map (fun n => (D.lit (.int .i64 n))) (f' := fun d => [d]) (Q' := fun _ => True) (fun _ => rfl) (fun _ _ => trivial)) (by kernel_rfl) rfl rdF_nil))) (by kernel_rfl) rfl (rdF_cons ((rd_int Tryz.underlying3).map (fun n => (D.lit (.int .i64 n))) (f' := fun d => [d]) (Q' := fun _ => True) (fun _ => rfl) (fun _ _ => trivial)) (by kernel_rfl) rfl (rdF_cons (rd_struct bulkOk Tryz.underlying41 (by kernel_rfl) (rdF_cons ((rd_int Tryz.underlying3).map (fun n => (D.lit (.int .i64 n))) (f' := fun d => [d]) (Q' := fun _ => True) (fun _ => rfl) (fun _ _ => trivial)) (by kernel_rfl) rfl (rdF_cons ((rd_int Tryz.underlying3).map (fun n => (D.lit (.int .i64 n))) (f' := fun d => [d]) (Q' := fun _ => True) (fun _ => rfl) (fun _ _ => trivial)) (by kernel_rfl) rfl rdF_nil))) (by kernel_rfl) rfl (rdF_cons (rdUses hM) (by kernel_rfl) rfl (rdF_cons (rdGrants hM) (by kernel_rfl) rfl (rdF_cons (rdAsks hM) (by kernel_rfl) rfl (rdF_cons (rd_sliceAny Tryz.underlying42) (by kernel_rfl) rfl (rdF_cons ((rd_bool Tryz.underlying4).map (fun n => (D.lit (.bool n))) (f' := fun d => [d]) (Q' := fun _ => True) (fun _ => rfl) (fun _ _ => trivial)) (by kernel_rfl) rfl (rdF_cons (rd_sliceAny Tryz.underlying43) (by kernel_rfl) rfl (rdF_cons (rd_sliceAny Tryz.underlying43) (by kernel_rfl) rfl (rdF_cons (rd_sliceAny Tryz.underlying44) (by kernel_rfl) rfl (rdF_cons (rd_struct bulkOk Tryz.underlying47 (by kernel_rfl) (rdF_cons ((rd_int Tryz.underlying3).map (fun n => (D.lit (.int .i64 n))) (f' := fun d => [d]) (Q' := fun _ => True) (fun _ => rfl) (fun _ _ => trivial)) (by kernel_rfl) rfl (rdF_cons ((rd_int Tryz.underlying3).map (fun n => (D.lit (.int .i64 n))) (f' := fun d => [d]) (Q' := fun _ => True) (fun _ => rfl) (fun _ _ => trivial)) (by kernel_rfl) rfl (rdF_cons ((rd_int Tryz.underlying45).map (fun n => (D.lit (.int .u64 n))) (f' := fun d => [d]) (Q' := fun _ => True) (fun _ => rfl) (fun _ _ => trivial)) (by kernel_rfl) rfl (rdF_cons ((rd_int Tryz.underlying3).map (fun n => (D.lit (.int .i64 n))) (f' := fun d => [d]) (Q' := fun _ => True) (fun _ => rfl) (fun _ _ => trivial)) (by kernel_rfl) rfl rdF_nil))))) (by kernel_rfl) rfl (rdF_cons ((rd_int Tryz.underlying3).map (fun n => (D.lit (.int .i64 n))) (f' := fun d => [d]) (Q' := fun _ => True) (fun _ => rfl) (fun _ _ => trivial)) (by kernel_rfl) rfl (rdF_cons ((rd_int Tryz.underlying3).map (fun n => (D.lit (.int .i64 n))) (f' := fun d => [d]) (Q' := fun _ => True) (fun _ => rfl) (fun _ _ => trivial)) (by kernel_rfl) rfl (rdF_cons (rd_struct bulkOk Tryz.underlying51 (by kernel_rfl) (rdF_cons ((rd_int Tryz.underlying3).map (fun n => (D.lit (.int .i64 n))) (f' := fun d => [d]) (Q' := fun _ => True) (fun _ => rfl) (fun _ _ => trivial)) (by kernel_rfl) rfl (rdF_cons ((rd_int Tryz.underlying3).map (fun n => (D.lit (.int .i64 n))) (f' := fun d => [d]) (Q' := fun _ => True) (fun _ => rfl) (fun _ _ => trivial)) (by kernel_rfl) rfl (rdF_cons (rd_sliceAny Tryz.underlying48) (by kernel_rfl) rfl (rdF_cons (rd_sliceAny Tryz.underlying49) (by kernel_rfl) rfl rdF_nil))))) (by kernel_rfl) rfl (rdF_cons ((rd_bool Tryz.underlying4).map (fun n => (D.lit (.bool n))) (f' := fun d => [d]) (Q' := fun _ => True) (fun _ => rfl) (fun _ _ => trivial)) (by kernel_rfl) rfl rdF_nil))))))))))))))))))))))) (by kernel_rfl) rfl rdF_nil))).map (fun p => ⟨p.1, p.2.1.1, ⟨p.2.1.2.2.2.2.2.2.2.2.2.1, p.2.1.2.2.2.2.2.2.2.2.2.2.1, p.2.1.2.2.2.2.2.2.2.2.2.2.2.1⟩, ⟨p.2.1.2.1, p.2.1.2.2.1, p.2.1.2.2.2.1, p.2.1.2.2.2.2.1, p.2.1.2.2.2.2.2.1, p.2.1.2.2.2.2.2.2.1.1, p.2.1.2.2.2.2.2.2.1.2.1, p.2.1.2.2.2.2.2.2.2.1, p.2.1.2.2.2.2.2.2.2.2.1.1, p.2.1.2.2.2.2.2.2.2.2.1.2.1, p.2.1.2.2.2.2.2.2.2.2.2.2.2.2.1, p.2.1.2.2.2.2.2.2.2.2.2.2.2.2.2.1, p.2.1.2.2.2.2.2.2.2.2.2.2.2.2.2.2.1, p.2.1.2.2.2.2.2.2.2.2.2.2.2.2.2.2.2.1, p.2.1.2.2.2.2.2.2.2.2.2.2.2.2.2.2.2.2.1, p.2.1.2.2.2.2.2.2.2.2.2.2.2.2.2.2.2.2.2.1.1, p.2.1.2.2.2.2.2.2.2.2.2.2.2.2.2.2.2.2.2.1.2.1, p.2.1.2.2.2.2.2.2.2.2.2.2.2.2.2.2.2.2.2.1.2.2.1, p.2.1.2.2.2.2.2.2.2.2.2.2.2.2.2.2.2.2.2.1.2.2.2.1, p.2.1.2.2.2.2.2.2.2.2.2.2.2.2.2.2.2.2.2.2.1, p.2.1.2.2.2.2.2.2.2.2.2.2.2.2.2.2.2.2.2.2.2.1, p.2.1.2.2.2.2.2.2.2.2.2.2.2.2.2.2.2.2.2.2.2.2.1.1, p.2.1.2.2.2.2.2.2.2.2.2.2.2.2.2.2.2.2.2.2.2.2.1.2.1, p.2.1.2.2.2.2.2.2.2.2.2.2.2.2.2.2.2.2.2.2.2.2.1.2.2.1, p.2.1.2.2.2.2.2.2.2.2.2.2.2.2.2.2.2.2.2.2.2.2.1.2.2.2.1, p.2.1.2.2.2.2.2.2.2.2.2.2.2.2.2.2.2.2.2.2.2.2.2.1⟩⟩) (fun _ => rfl) (fun _ _ => trivial)
theorem rdNears : Rd enc Tryz.prog W M Rows.uptoBulk 29 1 (fun l : List Near => [.list 31 (l.map encNear)]) (fun l => l.length ≤ 1048576) :=
 (rd_slice bulkOk hM encNear Tryz.underlying29 (by kernel_rfl) (by decide) (rdNear hM) (fun _ => rfl)).map (fun l => l) (fun _ => rfl) (fun _ h => h.1)
end
theorem own : ownKnob Tryz.prog.godebug = none := by kernel_rfl
theorem laidOut : laidOutB Tryz.prog = true := by kernel_rfl
theorem reads_memA (W : World) : Reads (memA (fun _ => False) W) W := fun b o v h => ⟨id, h⟩
set_option maxRecDepth 100000 in
theorem contract6 (H : Type) (enc : TypeId × Value → H) (W : World) (base : Nat) (args : Array Value) (ds gs : List (DataW H)) (before : List MemPlace)
  (hval : ∀ (j : Nat) t v, Tryz.f6.params[j]? = some t → args[j]? = some v → Value.okWide Tryz.prog W .any base t v)
  (hW : DataW.Whole enc Tryz.prog Tryz.f6.params.toList Rows.bargainNobodyDisturbedSpec.vars false W args.toList ds gs before) (hk : Rows.uptoSmall H (ds ++ gs) = true) :
  Calls Tryz.prog 6 args W fun e W' => ∃ v, e = .returned v ∧ Rows.bargainNobodyDisturbedSpec.post enc Tryz.prog Tryz.f6 false true false false W args v W' := by
 have hW' := hW
 obtain ⟨p, q, hA0, hV, rfl, hfz, hnd⟩ := hW
 obtain ⟨rfl, rfl⟩ := trodVars_none hV
 have hA : DataW.TrodAll enc Tryz.prog W 0 (fun _ => true) true Tryz.f6.params.toList args.toList ds p := hA0
 rw [Tryz.params6] at hA hval
 clear hA0
 obtain ⟨v0, vs0, d0, ds0, p0, q0, hargs, rfl, rfl, h0, r0⟩ := trodAll_cons hA
 obtain ⟨v1, vs1, d1, ds1, p1, q1, rfl, rfl, rfl, h1, r1⟩ := trodAll_cons r0
 obtain ⟨v2, vs2, d2, ds2, p2, q2, rfl, rfl, rfl, h2, r2⟩ := trodAll_cons r1
 obtain ⟨v3, vs3, d3, ds3, p3, q3, rfl, rfl, rfl, h3, r3⟩ := trodAll_cons r2
 obtain ⟨v4, vs4, d4, ds4, p4, q4, rfl, rfl, rfl, h4, r4⟩ := trodAll_cons r3
 obtain ⟨v5, vs5, d5, ds5, p5, q5, rfl, rfl, rfl, h5, r5⟩ := trodAll_cons r4
 obtain ⟨v6, vs6, d6, ds6, p6, q6, rfl, rfl, rfl, h6, r6⟩ := trodAll_cons r5
 obtain ⟨rfl, rfl, rfl⟩ := trodAll_nil r6
 obtain rfl : args = #[v0, v1, v2, v3, v4, v5, v6] := by cases args; simp_all
 have hbulk : ∀ d ∈ [d0, d1, d2, d3, d4, d5, d6], Rows.uptoBulk d ≤ 1048576 := fun d hd => by
  have h1 := bulkOk.mem d _ hd
  have h2 := of_decide_eq_true hk
  rw [List.append_nil] at h2
  exact Nat.le_trans h1 h2
 have hM := reads_memA W
 obtain ⟨y0, z0, q0⟩ := arg_struct Tryz.underlying23 rdLayout (hval 0 23 v0 rfl rfl) h0 (hbulk _ (by simp))
 obtain ⟨y1, z1, q1⟩ := arg_struct Tryz.underlying28 (rdTable hM) (hval 1 28 v1 rfl rfl) h1 (hbulk _ (by simp))
 obtain ⟨y2, z2, q2⟩ := arg_one rdI (cells_int Tryz.underlying3 (hval 2 3 v2 rfl rfl)) h2 (hbulk _ (by simp))
 obtain ⟨y3, z3, q3⟩ := arg_one (rdNears hM) (cells_slice Tryz.underlying29 (hval 3 29 v3 rfl rfl)) h3 (hbulk _ (by simp))
 obtain ⟨y4, z4, q4⟩ := arg_one rdI (cells_int Tryz.underlying3 (hval 4 3 v4 rfl rfl)) h4 (hbulk _ (by simp))
 obtain ⟨y5, z5, q5⟩ := arg_one rdI (cells_int Tryz.underlying3 (hval 5 3 v5 rfl rfl)) h5 (hbulk _ (by simp))
 obtain ⟨y6, z6, q6⟩ := arg_one rdI (cells_int Tryz.underlying3 (hval 6 3 v6 rfl rfl)) h6 (hbulk _ (by simp))
 refine (((kLaw6_ok 71 y0 y1 y2 y3 y4 y5 y6 true (law6_true (by omega) y0 y1 y2 y3 y4 y5 y6 ⟨by omega, by omega, by omega, by omega⟩)).2 (fun _ => False) W [v0, v1, v2, v3, v4, v5, v6] (fun _ h => h.elim) ⟨_, _, rfl, z0, _, _, rfl, z1, _, _, rfl, z2, _, _, rfl, z3, _, _, rfl, z4, _, _, rfl, z5, _, _, rfl, z6, rfl⟩)).mono fun e W' ⟨v, he, hr, hE⟩ => ?_
 simp only [B, Rel] at hr
 subst hr
 refine ⟨_, he, law_post (P := Tryz.prog) (f := Tryz.f6) (s := Rows.bargainNobodyDisturbedSpec) (tb := 4) laidOut (by kernel_rfl) rfl (fun ds hd => ?_) rfl Tryz.underlying4 hW' hE⟩
 have hd : ds.length = 7 := hd
 match ds, hd with
 | [a0, a1, a2, a3, a4, a5, a6], _ => rfl
set_option maxRecDepth 100000 in
theorem lifted6 (os : Os) (started : os.Started) (H : Type) (enc : TypeId × Value → H) (F : Stop.Interp) :
  ReturnsInHanded {} Tryz.checked os 6 .any ((Rows.OpenSpec.upto Rows.bargainNobodyDisturbedSpec).pre6 enc Tryz.prog Tryz.f6 Rows.bargainNobodyDisturbedUptoRow.domain false) (((Rows.OpenSpec.upto Rows.bargainNobodyDisturbedSpec).at F).post enc Tryz.prog Tryz.f6 false true false false) := by
 refine returnsInHanded_of_cond (C := Tryz.checked) (s := Rows.OpenSpec.upto Rows.bargainNobodyDisturbedSpec) (k := Rows.uptoSmall) rfl own started (by kernel_rfl) Tryz.func6
  (OpenSpec.witness (enc := enc) (C := Tryz.checked) (s := Rows.OpenSpec.upto Rows.bargainNobodyDisturbedSpec) (k := Rows.uptoSmall) rfl false ⟨#[], #[.agg #[.int .i64 0, .int .i64 0], .agg #[.slice none 0 0, .slice none 0 0, .slice none 0 0], .int .i64 0, .slice none 0 0, .int .i64 0, .int .i64 0, .int .i64 0], []⟩ 8 (by kernel_rfl) (by kernel_rfl) (by kernel_rfl)
   (x := ([.agg [.lit (.int .i64 0), .lit (.int .i64 0)], .agg [.nil, .nil, .nil], .lit (.int .i64 0), .nil, .lit (.int .i64 0), .lit (.int .i64 0), .lit (.int .i64 0)], [], [])) (by kernel_rfl) rfl (by kernel_rfl)) ?_
 intro W base args ds gs before hval hW _ hk _
 exact contract6 H enc W base args ds gs before hval hW hk
theorem over6 : Rows.bargainNobodyDisturbedUptoRow.holds Tryz.pinned (Rows.OpenSpec.upto Rows.bargainNobodyDisturbedSpec) :=
 OpenClaim.holds_of_cond 6 Tryz.f6 rfl rfl rfl rfl rfl rfl rfl ⟨rfl, rfl, rfl, rfl, rfl⟩ rfl rfl rfl rfl rfl (by kernel_rfl) Tryz.func6 (by kernel_rfl)
  (of_decide_eq_true (by kernel_rfl)) (by unfold Func.isWrapper; first | (rw [if_pos (by decide +kernel)]; kernel_rfl) | (rw [if_neg (by decide +kernel)]; exact ⟨rfl, rfl⟩))
  (fun os started H enc _ F => lifted6 os started H enc F)
theorem proved6 : Rows.BargainNobodyDisturbedUptoSaid := over6
end Go.VM.Tryz
namespace Go.Proofs.YthegffpdongaoaaGreat
theorem holds : Rows.BargainNobodyDisturbedUptoSaid := Go.VM.Tryz.proved6
end Go.Proofs.YthegffpdongaoaaGreat
