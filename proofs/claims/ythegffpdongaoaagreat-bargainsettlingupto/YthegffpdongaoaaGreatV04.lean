/-
  Proved: BargainSettlingUptoSaid, for every input whose bulk is at most 1048576 values; no further condition. (This text is one part of the proof.)
-/
import Derived.Test.YthegffpdongaoaaGreatV03
import Derived.KernelRfl
set_option linter.unusedVariables false
set_option linter.unusedSimpArgs false
set_option linter.unusedSectionVars false
namespace Go.VM.Tryz
open Go.Proofs
def kCellsAddGrant (t : Table) (a1 : Layout) (a2 : Grant) : Option (Table × Int) := Option.bind (cellsRefusedG t a1 a2) fun v1 => cond (v1 != 0) (some (⟨[], [], []⟩, v1)) (cond (decide (t.uses.length ≤ 4000000)) (cond (decide (t.grants.length ≤ 3999999)) (cond (decide (t.uses.length ≤ 4000000 ∧ t.grants.length ≤ 4000000 ∧ t.asks.length ≤ 4000000)) (some (⟨t.uses, (insBy (beyondGrant a2) a2 t.grants), (t.asks.filter fun a => !(a.cell.slot == a2.cell.slot))⟩, 0)) none) none) none)
theorem kCellsAddGrant_ok (t : Table) (a1 : Layout) (a2 : Grant) (r : Table × Int) (h : kCellsAddGrant t a1 a2 = some r) : PCalls Tryz.prog 52 [encTable t, encLayout a1, encGrant a2] (.tuple [encTable r.1, I r.2]) := by
 unfold kCellsAddGrant at h
 refine xe 31 Tryz.func52 ?_
 refine xsr ?_
 refine xa ?_
 refine xa ?_
 refine xa ?_
 refine xa ?_
 refine xp ?_
 refine xq ?_
 refine vc_seq ?_
 refine vc_seq ?_
 refine xk [3] [(3, .d (.ptr [.list 4 (t.uses.map encUse), .list 5 (t.grants.map encGrant), .list 3 (t.asks.map encAsk)])), (4, .d (.ptr [I a1.nodes, I a1.data])), (5, .d (.ptr (encGrant a2).cells)), (6, .own 0 0)] (σ' := [.cells [.d (.lit (.slice none 0 0)), .d (.lit (.slice none 0 0)), .d (.lit (.slice none 0 0))]]) (.cons rfl (.cells (.cons (.h rfl rfl) (.cons (.h rfl rfl) (.cons (.h rfl rfl) .nil)))) .nil) ⟨.z (.own' rfl (.cons .d (.cons .d (.cons .d .nil)))) .refl, ⟨.z (.own' rfl (.cons .d (.cons .d .nil))) .refl, ⟨.z (.own' rfl (.cons .d (.cons .d (.cons .d (.cons .d (.cons .d .nil)))))) .refl, (xh1 trivial)⟩⟩⟩ ?_
 refine xr ?_
 iterate 4 refine xp ?_
 obtain ⟨v1, hv1, h⟩ := bindO h
 refine xc (cellsRefusedG_ok t a1 a2 _ hv1) ?_
 refine xp ?_
 refine xq ?_
 refine xsr ?_
 iterate 2 refine xp ?_
 refine xq ?_
 cases c2 : (v1 != 0) with
 | true =>
  have h := cT c2 h
  refine vc_condT rfl ?_
  refine xsr ?_
  iterate 2 refine xp ?_
  refine xw ?_
  refine xp ?_
  refine xq ?_
  replace h := Option.some.inj h
  refine vc_ret ⟨.inr rfl, [encTable ⟨[], [], []⟩, I v1], (.cons rfl ⟨_, .d, (.agg' (.cons .nil (.cons .nil (.cons .nil .nil))))⟩ (.cons rfl ⟨_, .d, .refl⟩ .nil)), ?_⟩
  first | (rw [← h]; done) | (rw [← h]; rfl) | (rw [← h]; simp)
 | false =>
  have h := cF c2 h
  refine vc_condF rfl ?_
  refine vc_skip ?_
  refine xsd ?_
  iterate 2 refine xp ?_
  obtain ⟨g3, h⟩ := gd h; replace g3 := dT g3
  refine xc ((cloneUse_f (t.uses.map encUse) (by simpa using g3) (flatUses _)).p) ?_
  iterate 3 refine xp ?_
  obtain ⟨g4, h⟩ := gd h; replace g4 := dT g4
  refine xc ((insertGrant_ok t.grants a2 g4).p) ?_
  iterate 4 refine xp ?_
  obtain ⟨g5, h⟩ := gd h; replace g5 := dT g5
  refine xc (unasked_ok t a2.cell.slot ⟨g5.1, g5.2.1, g5.2.2⟩) ?_
  refine xp ?_
  refine xw ?_
  refine xp ?_
  refine xq ?_
  replace h := Option.some.inj h
  refine vc_ret ⟨.inr rfl, [encTable ⟨t.uses, (insBy (beyondGrant a2) a2 t.grants), (t.asks.filter fun a => !(a.cell.slot == a2.cell.slot))⟩, I 0], (.cons rfl ⟨_, .d, .refl⟩ (.cons rfl ⟨_, .d, .refl⟩ .nil)), ?_⟩
  first | (rw [← h]; done) | (rw [← h]; rfl) | (rw [← h]; simp)
def kCellsAddUse (t : Table) (a1 : Layout) (a2 : Use) : Option (Table × Int) := Option.bind (cellsRefusedU t a1 a2) fun v1 => cond (v1 != 0) (some (⟨[], [], []⟩, v1)) (cond (decide (t.uses.length ≤ 3999999)) (cond (decide (t.grants.length ≤ 4000000)) (cond (decide (t.uses.length ≤ 4000000 ∧ t.grants.length ≤ 4000000 ∧ t.asks.length ≤ 4000000)) (some (⟨(insBy (beyondUse a2) a2 t.uses), t.grants, (t.asks.filter fun a => !(a.cell.slot == a2.cell.slot))⟩, 0)) none) none) none)
theorem kCellsAddUse_ok (t : Table) (a1 : Layout) (a2 : Use) (r : Table × Int) (h : kCellsAddUse t a1 a2 = some r) : PCalls Tryz.prog 56 [encTable t, encLayout a1, encUse a2] (.tuple [encTable r.1, I r.2]) := by
 unfold kCellsAddUse at h
 refine xe 31 Tryz.func56 ?_
 refine xsr ?_
 refine xa ?_
 refine xa ?_
 refine xa ?_
 refine xa ?_
 refine xp ?_
 refine xq ?_
 refine vc_seq ?_
 refine vc_seq ?_
 refine xk [3] [(3, .d (.ptr [.list 4 (t.uses.map encUse), .list 5 (t.grants.map encGrant), .list 3 (t.asks.map encAsk)])), (4, .d (.ptr [I a1.nodes, I a1.data])), (5, .d (.ptr (encUse a2).cells)), (6, .own 0 0)] (σ' := [.cells [.d (.lit (.slice none 0 0)), .d (.lit (.slice none 0 0)), .d (.lit (.slice none 0 0))]]) (.cons rfl (.cells (.cons (.h rfl rfl) (.cons (.h rfl rfl) (.cons (.h rfl rfl) .nil)))) .nil) ⟨.z (.own' rfl (.cons .d (.cons .d (.cons .d .nil)))) .refl, ⟨.z (.own' rfl (.cons .d (.cons .d .nil))) .refl, ⟨.z (.own' rfl (.cons .d (.cons .d (.cons .d (.cons .d .nil))))) .refl, (xh1 trivial)⟩⟩⟩ ?_
 refine xr ?_
 iterate 4 refine xp ?_
 obtain ⟨v1, hv1, h⟩ := bindO h
 refine xc (cellsRefusedU_ok t a1 a2 _ hv1) ?_
 refine xp ?_
 refine xq ?_
 refine xsr ?_
 iterate 2 refine xp ?_
 refine xq ?_
 cases c2 : (v1 != 0) with
 | true =>
  have h := cT c2 h
  refine vc_condT rfl ?_
  refine xsr ?_
  iterate 2 refine xp ?_
  refine xw ?_
  refine xp ?_
  refine xq ?_
  replace h := Option.some.inj h
  refine vc_ret ⟨.inr rfl, [encTable ⟨[], [], []⟩, I v1], (.cons rfl ⟨_, .d, (.agg' (.cons .nil (.cons .nil (.cons .nil .nil))))⟩ (.cons rfl ⟨_, .d, .refl⟩ .nil)), ?_⟩
  first | (rw [← h]; done) | (rw [← h]; rfl) | (rw [← h]; simp)
 | false =>
  have h := cF c2 h
  refine vc_condF rfl ?_
  refine vc_skip ?_
  refine xsd ?_
  iterate 3 refine xp ?_
  obtain ⟨g3, h⟩ := gd h; replace g3 := dT g3
  refine xc ((insertUse_ok t.uses a2 g3).p) ?_
  iterate 2 refine xp ?_
  obtain ⟨g4, h⟩ := gd h; replace g4 := dT g4
  refine xc ((cloneGrant_f (t.grants.map encGrant) (by simpa using g4) (flatGrants _)).p) ?_
  iterate 4 refine xp ?_
  obtain ⟨g5, h⟩ := gd h; replace g5 := dT g5
  refine xc (unasked_ok t a2.cell.slot ⟨g5.1, g5.2.1, g5.2.2⟩) ?_
  refine xp ?_
  refine xw ?_
  refine xp ?_
  refine xq ?_
  replace h := Option.some.inj h
  refine vc_ret ⟨.inr rfl, [encTable ⟨(insBy (beyondUse a2) a2 t.uses), t.grants, (t.asks.filter fun a => !(a.cell.slot == a2.cell.slot))⟩, I 0], (.cons rfl ⟨_, .d, .refl⟩ (.cons rfl ⟨_, .d, .refl⟩ .nil)), ?_⟩
  first | (rw [← h]; done) | (rw [← h]; rfl) | (rw [← h]; simp)
def it89_L1 {S : Type} (step : S → Cell → Option (S × Bool)) (c0 : Side) : Nat → Int → S → Option (Sum (S) (S))
 | 0, i2, p1 => some (.inl p1)
 | k + 1, i2, p1 => cond (decide ((IntKind.i64.wrap (16 * c0.l.data)) ≠ 0)) (cond (decide (c0.l.data ≠ 0)) (cond (decide (c0.l.data ≠ 0)) (Option.bind (step p1 ⟨((IntKind.i64.wrap ((IntKind.i64.wrap ((IntKind.i64.wrap (17 * c0.me)) + (IntKind.i64.wrap (5 * c0.frame)))) + i2)).tmod (IntKind.i64.wrap (16 * c0.l.data))).tmod c0.l.data, IntKind.i64.wrap (((IntKind.i64.wrap ((IntKind.i64.wrap ((IntKind.i64.wrap (17 * c0.me)) + (IntKind.i64.wrap (5 * c0.frame)))) + i2)).tmod (IntKind.i64.wrap (16 * c0.l.data))).tdiv c0.l.data)⟩) fun v9 => cond v9.2 (it89_L1 step c0 k (i2 + 1) v9.1) (some (.inr v9.1))) none) none) none
def it89 {S : Type} (step : S → Cell → Option (S × Bool)) (c0 : Side) (s0 : S) : Option S := cond (decide (IntKind.i64.wrap (16 * c0.l.data) ≤ 9223372036854775807)) (Option.bind (it89_L1 step c0 (((IntKind.i64.wrap (16 * c0.l.data)) : Int) - 0).toNat 0 s0) fun v3 => Sum.elim (fun v4 => some v4) (fun v5 => some v5) v3) none
theorem it89_ok6 {S : Type} (step : S → Cell → Option (S × Bool)) (O0 O1 O2 O3 O4 O5 : S → Obj) (hl0 : ∀ s, (O0 s).live = true) (hb0 : ∀ s, (O0 s).bnd 6 = true) (hl1 : ∀ s, (O1 s).live = true) (hb1 : ∀ s, (O1 s).bnd 6 = true) (hl2 : ∀ s, (O2 s).live = true) (hb2 : ∀ s, (O2 s).bnd 6 = true) (hl3 : ∀ s, (O3 s).live = true) (hb3 : ∀ s, (O3 s).bnd 6 = true) (hl4 : ∀ s, (O4 s).live = true) (hb4 : ∀ s, (O4 s).bnd 6 = true) (hl5 : ∀ s, (O5 s).live = true) (hb5 : ∀ s, (O5 s).bnd 6 = true) (y : Value) (hy : ∀ s x r, step s x = some r → YCalls Tryz.prog y [encCell x] [O0 s, O1 s, O2 s, O3 s, O4 s, O5 s] r.2 [O0 r.1, O1 r.1, O2 r.1, O3 r.1, O4 r.1, O5 r.1]) (c0 : Side) (s0 s1 : S) (h : it89 step c0 s0 = some s1) : GCalls Tryz.prog 89 [.d (.lit y), .d (.ptr [.ptr (encSideS c0).cells])] [O0 s0, O1 s0, O2 s0, O3 s0, O4 s0, O5 s0] (.d (.tuple [])) [O0 s1, O1 s1, O2 s1, O3 s1, O4 s1, O5 s1] := by
 unfold it89 at h
 refine gcalls_of_vcP tabOk 50 Tryz.func89 rfl (by kernel_rfl) rfl rfl rfl ?_
 refine xsr ?_
 iterate 7 refine xp ?_
 refine xq ?_
 refine xsr ?_
 iterate 2 refine xp ?_
 refine xq ?_
 obtain ⟨hn, h⟩ := gd h; replace hn := dT hn
 obtain ⟨v3, hv3, hLv3⟩ := bindO h
 refine vc_mid2 v3 (fun v4 => []) (fun v4 => [O0 v4, O1 v4, O2 v4, O3 v4, O4 v4, O5 v4]) ?_ ?_
 ·refine vc_block ?_
  refine vc_loop ?_
  refine xK [0, 1, 2, 3, 4, 5] [(0, .d (.lit y)), (1, .d (.ptr [.ptr (encSideS c0).cells])), (3, .d (I (IntKind.i64.wrap (16 * c0.l.data)))), (12, .d (I (IntKind.i64.wrap (16 * c0.l.data)))), (13, .d (I 0))] (σ' := [O0 s0, O1 s0, O2 s0, O3 s0, O4 s0, O5 s0]) (.cons rfl (.self 6 rfl (hb0 _)) (.cons rfl (.self 6 rfl (hb1 _)) (.cons rfl (.self 6 rfl (hb2 _)) (.cons rfl (.self 6 rfl (hb3 _)) (.cons rfl (.self 6 rfl (hb4 _)) (.cons rfl (.self 6 rfl (hb5 _)) .nil)))))) (xh5 trivial) ?_
  refine vcl_num (IntKind.i64.wrap (16 * c0.l.data)) (fun (k : Nat) (i : Int) (s : S) => it89_L1 step c0 k i s) (some v3) (fun i s => envOf [(0, .d (.lit y)), (1, .d (.ptr [.ptr (encSideS c0).cells])), (3, .d (I (IntKind.i64.wrap (16 * c0.l.data)))), (12, .d (I (IntKind.i64.wrap (16 * c0.l.data)))), (13, .d (I i))]) (fun i s => [O0 s, O1 s, O2 s, O3 s, O4 s, O5 s]) ?step1 ?done1 0 s0 (by omega) hv3
  case step1 =>
   rintro k i2 p1 h0 h1 h ih
   replace h : it89_L1 step c0 (k + 1) i2 p1 = some v3 := h
   rw [it89_L1] at h
   show VCL _ _ _ _ _ (envOf _) (_ :: _)
   refine vcl_unroll ?_
   refine xsr ?_
   refine xp ?_
   refine xq ?_
   refine vc_seq ?_
   refine vc_cond rfl (fun _ => ?_) (fun hf => absurd hf (by simp; omega))
   refine vc_skip ?_
   refine vc_seq ?_
   refine vc_block ?_
   refine xsr ?_
   iterate 2 refine xp ?_
   refine xq ?_
   refine xsd ?_
   iterate 14 refine xp ?_
   obtain ⟨g6, h⟩ := gd h; replace g6 := dT g6
   refine rrem rfl rfl rfl rfl rfl rfl g6 ?_
   refine xp ?_
   refine xq ?_
   refine xsd ?_
   iterate 7 refine xp ?_
   obtain ⟨g7, h⟩ := gd h; replace g7 := dT g7
   refine rrem rfl rfl rfl rfl rfl rfl g7 ?_
   iterate 6 refine xp ?_
   obtain ⟨g8, h⟩ := gd h; replace g8 := dT g8
   refine rquo rfl rfl rfl rfl rfl rfl g8 ?_
   refine xp ?_
   obtain ⟨v9, hv9, h⟩ := bindO h
   refine ry 6 rfl rfl rfl rfl rfl rfl rfl rfl rfl rfl rfl (hy _ _ _ hv9) (okc (hl0 _) (hb0 _) (okc (hl1 _) (hb1 _) (okc (hl2 _) (hb2 _) (okc (hl3 _) (hb3 _) (okc (hl4 _) (hb4 _) (okc (hl5 _) (hb5 _) okn)))))) (okc (hl0 _) (hb0 _) (okc (hl1 _) (hb1 _) (okc (hl2 _) (hb2 _) (okc (hl3 _) (hb3 _) (okc (hl4 _) (hb4 _) (okc (hl5 _) (hb5 _) okn)))))) ?_
   refine xp ?_
   refine xq ?_
   cases c10 : v9.2 with
   | true =>
    have h := cT c10 h
    refine vc_condF rfl ?_
    refine vc_skip ?_
    refine xk [0, 1, 2, 3, 4, 5] [(0, .d (.lit y)), (1, .d (.ptr [.ptr (encSideS c0).cells])), (3, .d (I (IntKind.i64.wrap (16 * c0.l.data)))), (12, .d (I (IntKind.i64.wrap (16 * c0.l.data)))), (13, .d (I i2))] (σ' := [O0 v9.1, O1 v9.1, O2 v9.1, O3 v9.1, O4 v9.1, O5 v9.1]) (.cons rfl (.self 6 rfl (hb0 _)) (.cons rfl (.self 6 rfl (hb1 _)) (.cons rfl (.self 6 rfl (hb2 _)) (.cons rfl (.self 6 rfl (hb3 _)) (.cons rfl (.self 6 rfl (hb4 _)) (.cons rfl (.self 6 rfl (hb5 _)) .nil)))))) (xh5 trivial) ?_
    refine xr ?_
    iterate 2 refine xp ?_
    refine xq ?_
    exact xv [0, 1, 2, 3, 4, 5] (ih v9.1 h) (.cons rfl (.self 6 rfl (hb0 _)) (.cons rfl (.self 6 rfl (hb1 _)) (.cons rfl (.self 6 rfl (hb2 _)) (.cons rfl (.self 6 rfl (hb3 _)) (.cons rfl (.self 6 rfl (hb4 _)) (.cons rfl (.self 6 rfl (hb5 _)) .nil)))))) (xh3 (xh1 ⟨.e rfl (numD h0 h1 hn), trivial⟩))
   | false =>
    have h := cF c10 h
    refine vc_condT rfl ?_
    cases h
    have h := sumR hLv3
    refine vc_ret ⟨.inr rfl, ?_⟩
    cases h
    exact weak_cut (ks := [0, 1, 2, 3, 4, 5]) (l := []) rfl (by decide) (.cons rfl (.self 6 rfl (hb0 _)) (.cons rfl (.self 6 rfl (hb1 _)) (.cons rfl (.self 6 rfl (hb2 _)) (.cons rfl (.self 6 rfl (hb3 _)) (.cons rfl (.self 6 rfl (hb4 _)) (.cons rfl (.self 6 rfl (hb5 _)) .nil)))))) trivial
  case done1 =>
   rintro i2 p1 h0 h1 h
   replace h : it89_L1 step c0 0 i2 p1 = some v3 := h
   rw [it89_L1] at h
   show VCL _ _ _ _ _ (envOf _) (_ :: _)
   refine vcl_unroll ?_
   refine xsr ?_
   refine xp ?_
   refine xq ?_
   refine vc_seq ?_
   refine vc_cond rfl (fun ht => absurd ht (by simp; try omega)) (fun _ => ?_)
   refine vc_exit ?_
   cases h
   exact xm [0, 1, 2, 3, 4, 5] (.cons rfl (.self 6 rfl (hb0 _)) (.cons rfl (.self 6 rfl (hb1 _)) (.cons rfl (.self 6 rfl (hb2 _)) (.cons rfl (.self 6 rfl (hb3 _)) (.cons rfl (.self 6 rfl (hb4 _)) (.cons rfl (.self 6 rfl (hb5 _)) .nil)))))) trivial
 ·rintro v4 rfl
  have h := sumL hLv3
  refine ⟨.inl rfl, ?_⟩
  cases h
  exact weak_cut (ks := [0, 1, 2, 3, 4, 5]) (l := []) rfl (by decide) (.cons rfl (.self 6 rfl (hb0 _)) (.cons rfl (.self 6 rfl (hb1 _)) (.cons rfl (.self 6 rfl (hb2 _)) (.cons rfl (.self 6 rfl (hb3 _)) (.cons rfl (.self 6 rfl (hb4 _)) (.cons rfl (.self 6 rfl (hb5 _)) .nil)))))) trivial
theorem it89_it6 (c0 : Side) : IterOk Tryz.prog 89 [] [.d (.ptr [.ptr (encSideS c0).cells])] (fun x : Cell => [encCell x]) 6 (fun {S} step s => it89 step c0 s) := by
 intro S pre hlen hok step y hy s s1 h
 obtain ⟨O0, O1, O2, O3, O4, O5, rfl⟩ : ∃ O0 O1 O2 O3 O4 O5 : S → Obj, pre = fun s => [O0 s, O1 s, O2 s, O3 s, O4 s, O5 s] := ⟨fun s => (pre s).getD 0 .dead, fun s => (pre s).getD 1 .dead, fun s => (pre s).getD 2 .dead, fun s => (pre s).getD 3 .dead, fun s => (pre s).getD 4 .dead, fun s => (pre s).getD 5 .dead, funext fun s => list_lit (hlen s)⟩
 exact it89_ok6 step O0 O1 O2 O3 O4 O5 (fun s => (by have := hok s; simp only [List.all_cons, Bool.and_eq_true] at this; exact this.1.1)) (fun s => (by have := hok s; simp only [List.all_cons, Bool.and_eq_true] at this; exact this.1.2)) (fun s => (by have := hok s; simp only [List.all_cons, Bool.and_eq_true] at this; exact this.2.1.1)) (fun s => (by have := hok s; simp only [List.all_cons, Bool.and_eq_true] at this; exact this.2.1.2)) (fun s => (by have := hok s; simp only [List.all_cons, Bool.and_eq_true] at this; exact this.2.2.1.1)) (fun s => (by have := hok s; simp only [List.all_cons, Bool.and_eq_true] at this; exact this.2.2.1.2)) (fun s => (by have := hok s; simp only [List.all_cons, Bool.and_eq_true] at this; exact this.2.2.2.1.1)) (fun s => (by have := hok s; simp only [List.all_cons, Bool.and_eq_true] at this; exact this.2.2.2.1.2)) (fun s => (by have := hok s; simp only [List.all_cons, Bool.and_eq_true] at this; exact this.2.2.2.2.1.1)) (fun s => (by have := hok s; simp only [List.all_cons, Bool.and_eq_true] at this; exact this.2.2.2.2.1.2)) (fun s => (by have := hok s; simp only [List.all_cons, Bool.and_eq_true] at this; exact this.2.2.2.2.2.1.1)) (fun s => (by have := hok s; simp only [List.all_cons, Bool.and_eq_true] at this; exact this.2.2.2.2.2.1.2)) y hy c0 s s1 h
def kBAsk_R1 (t : Table) (peer : Int) (many : Int) (v7 : Side) (v8 : Near × Bool) (p12 : List Ask) (x13 : Cell) : Option (List Ask × Option Unit) := cond (decide ((p12.length : Int) ≥ many)) (some (p12, some ())) (Option.bind (Option.bind (f38 x13 v7 ⟨t.uses, t.grants, []⟩ ⟨v8.1.frame, v8.1.src, ⟨v8.1.t.uses, v8.1.t.grants, v8.1.t.asks⟩, ⟨v8.1.r.c2, v8.1.r.c3, v8.1.r.c4, v8.1.r.c5, v8.1.r.c6, v8.1.r.c7, v8.1.r.c8, v8.1.r.c9, v8.1.r.c10, v8.1.r.c11, v8.1.r.c15, v8.1.r.c16, v8.1.r.c17, v8.1.r.c18, v8.1.r.c19, v8.1.r.c20, v8.1.r.c21, v8.1.r.c22, v8.1.r.c23, v8.1.r.c24, v8.1.r.c25, v8.1.r.c26, v8.1.r.c27, v8.1.r.c28, v8.1.r.c29, v8.1.r.c30⟩⟩) fun v16 => cond v16 (Option.bind (f43 p12 (fun y0 => some (f44 y0 ⟨x13.slot, x13.offset⟩))) fun v18 => some (!v18)) (some false)) fun v15 => Option.bind (cond v15 (cond (decide (p12.length + 1 ≤ 4294967296)) (some (p12 ++ ([⟨⟨x13.slot, x13.offset⟩, peer⟩] : List Ask))) none) (some p12)) fun v19 => some (v19, none))
def kBAsk (a0 : Layout) (t : Table) (me : Int) (near : (List Near)) (peer : Int) (many : Int) (frame : Int) : Option (Table) := Option.bind (Option.bind (kNewSide a0 t me near frame) fun v2 => Option.elim v2.1 (some (v2.2, none)) (fun v3 => some (v2.2, (some v3)))) fun v1 => cond (cond v1.1 (!(kWithin many 24)) true) (some t) (Option.bind v1.2 fun v7 => Option.bind (kBFind v7 peer) fun v8 => cond v8.2 (cond (decide ((t.asks.all fun a => (f41 a peer (fun a => f38 a v7 ⟨t.uses, t.grants, []⟩ ⟨v8.1.frame, v8.1.src, ⟨v8.1.t.uses, v8.1.t.grants, v8.1.t.asks⟩, ⟨v8.1.r.c2, v8.1.r.c3, v8.1.r.c4, v8.1.r.c5, v8.1.r.c6, v8.1.r.c7, v8.1.r.c8, v8.1.r.c9, v8.1.r.c10, v8.1.r.c11, v8.1.r.c15, v8.1.r.c16, v8.1.r.c17, v8.1.r.c18, v8.1.r.c19, v8.1.r.c20, v8.1.r.c21, v8.1.r.c22, v8.1.r.c23, v8.1.r.c24, v8.1.r.c25, v8.1.r.c26, v8.1.r.c27, v8.1.r.c28, v8.1.r.c29, v8.1.r.c30⟩⟩)).isSome) = true ∧ t.asks.length ≤ 4000000)) (cond (decide (0 ≤ (minI ((t.asks.filter fun a => (f41 a peer (fun a => f38 a v7 ⟨t.uses, t.grants, []⟩ ⟨v8.1.frame, v8.1.src, ⟨v8.1.t.uses, v8.1.t.grants, v8.1.t.asks⟩, ⟨v8.1.r.c2, v8.1.r.c3, v8.1.r.c4, v8.1.r.c5, v8.1.r.c6, v8.1.r.c7, v8.1.r.c8, v8.1.r.c9, v8.1.r.c10, v8.1.r.c11, v8.1.r.c15, v8.1.r.c16, v8.1.r.c17, v8.1.r.c18, v8.1.r.c19, v8.1.r.c20, v8.1.r.c21, v8.1.r.c22, v8.1.r.c23, v8.1.r.c24, v8.1.r.c25, v8.1.r.c26, v8.1.r.c27, v8.1.r.c28, v8.1.r.c29, v8.1.r.c30⟩⟩)).getD false).length : Int) many) ∧ (minI ((t.asks.filter fun a => (f41 a peer (fun a => f38 a v7 ⟨t.uses, t.grants, []⟩ ⟨v8.1.frame, v8.1.src, ⟨v8.1.t.uses, v8.1.t.grants, v8.1.t.asks⟩, ⟨v8.1.r.c2, v8.1.r.c3, v8.1.r.c4, v8.1.r.c5, v8.1.r.c6, v8.1.r.c7, v8.1.r.c8, v8.1.r.c9, v8.1.r.c10, v8.1.r.c11, v8.1.r.c15, v8.1.r.c16, v8.1.r.c17, v8.1.r.c18, v8.1.r.c19, v8.1.r.c20, v8.1.r.c21, v8.1.r.c22, v8.1.r.c23, v8.1.r.c24, v8.1.r.c25, v8.1.r.c26, v8.1.r.c27, v8.1.r.c28, v8.1.r.c29, v8.1.r.c30⟩⟩)).getD false).length : Int) many) ≤ ((t.asks.filter fun a => (f41 a peer (fun a => f38 a v7 ⟨t.uses, t.grants, []⟩ ⟨v8.1.frame, v8.1.src, ⟨v8.1.t.uses, v8.1.t.grants, v8.1.t.asks⟩, ⟨v8.1.r.c2, v8.1.r.c3, v8.1.r.c4, v8.1.r.c5, v8.1.r.c6, v8.1.r.c7, v8.1.r.c8, v8.1.r.c9, v8.1.r.c10, v8.1.r.c11, v8.1.r.c15, v8.1.r.c16, v8.1.r.c17, v8.1.r.c18, v8.1.r.c19, v8.1.r.c20, v8.1.r.c21, v8.1.r.c22, v8.1.r.c23, v8.1.r.c24, v8.1.r.c25, v8.1.r.c26, v8.1.r.c27, v8.1.r.c28, v8.1.r.c29, v8.1.r.c30⟩⟩)).getD false).length : Int))) (Option.bind (it89 (stepOf (fun s x => kBAsk_R1 t peer many v7 v8 s x)) v7 ((t.asks.filter fun a => (f41 a peer (fun a => f38 a v7 ⟨t.uses, t.grants, []⟩ ⟨v8.1.frame, v8.1.src, ⟨v8.1.t.uses, v8.1.t.grants, v8.1.t.asks⟩, ⟨v8.1.r.c2, v8.1.r.c3, v8.1.r.c4, v8.1.r.c5, v8.1.r.c6, v8.1.r.c7, v8.1.r.c8, v8.1.r.c9, v8.1.r.c10, v8.1.r.c11, v8.1.r.c15, v8.1.r.c16, v8.1.r.c17, v8.1.r.c18, v8.1.r.c19, v8.1.r.c20, v8.1.r.c21, v8.1.r.c22, v8.1.r.c23, v8.1.r.c24, v8.1.r.c25, v8.1.r.c26, v8.1.r.c27, v8.1.r.c28, v8.1.r.c29, v8.1.r.c30⟩⟩)).getD false).take ((minI ((t.asks.filter fun a => (f41 a peer (fun a => f38 a v7 ⟨t.uses, t.grants, []⟩ ⟨v8.1.frame, v8.1.src, ⟨v8.1.t.uses, v8.1.t.grants, v8.1.t.asks⟩, ⟨v8.1.r.c2, v8.1.r.c3, v8.1.r.c4, v8.1.r.c5, v8.1.r.c6, v8.1.r.c7, v8.1.r.c8, v8.1.r.c9, v8.1.r.c10, v8.1.r.c11, v8.1.r.c15, v8.1.r.c16, v8.1.r.c17, v8.1.r.c18, v8.1.r.c19, v8.1.r.c20, v8.1.r.c21, v8.1.r.c22, v8.1.r.c23, v8.1.r.c24, v8.1.r.c25, v8.1.r.c26, v8.1.r.c27, v8.1.r.c28, v8.1.r.c29, v8.1.r.c30⟩⟩)).getD false).length : Int) many).toNat), none)) fun v22 => cond (decide (sortable v22.1)) (some ⟨t.uses, t.grants, sortAsk v22.1⟩) none) none) none) (some ⟨t.uses, t.grants, []⟩))
theorem kBAsk_ok (a0 : Layout) (t : Table) (me : Int) (near : (List Near)) (peer : Int) (many : Int) (frame : Int) (r : Table) (h : kBAsk a0 t me near peer many frame = some r) : PCalls Tryz.prog 12 [encLayout a0, encTable t, I me, .list 31 (near.map encNear), I peer, I many, I frame] (encTable r) := by
 unfold kBAsk at h
 refine xe 89 Tryz.func12 ?_
 refine xsr ?_
 refine xa ?_
 refine xa ?_
 refine xa ?_
 refine xa ?_
 refine xa ?_
 refine xq ?_
 refine vc_seq ?_
 refine xk [1, 4] [(2, .d (I me)), (3, .d (.list 31 (near.map encNear))), (6, .d (I frame)), (7, .d (.ptr [I a0.nodes, I a0.data])), (8, .own 0 0), (11, .d (.ptr [I peer])), (12, .d (.ptr [I many])), (14, .own 1 0)] (σ' := [.cells [.d (.list 4 (t.uses.map encUse)), .d (.list 5 (t.grants.map encGrant)), .d (.list 3 (t.asks.map encAsk))], .cells [.d (.lit (.slice none 0 0)), .d (.lit (.slice none 0 0)), .d (.lit (.slice none 0 0))]]) (.cons rfl (.cells (.cons (.h rfl rfl) (.cons (.h rfl rfl) (.cons (.h rfl rfl) .nil)))) (.cons rfl (.cells (.cons (.h rfl rfl) (.cons (.h rfl rfl) (.cons (.h rfl rfl) .nil)))) .nil)) (xh3 ⟨.z (.own' rfl (.cons .d (.cons .d .nil))) .refl, (xh1 ⟨.z (.own' rfl (.cons .d .nil)) .refl, ⟨.z (.own' rfl (.cons .d .nil)) .refl, (xh1 trivial)⟩⟩)⟩) ?_
 obtain ⟨v1, hv1, h⟩ := bindO h
 refine vc_midQ [(8, .own 0 0), (11, .d (.ptr [I peer])), (12, .d (.ptr [I many])), (14, .own 1 0), (15, .own 2 0), (16, .d (B v1.1))] [.cells [.d (.list 4 (t.uses.map encUse)), .d (.list 5 (t.grants.map encGrant)), .d (.list 3 (t.asks.map encAsk))], .cells [.d (.lit (.slice none 0 0)), .d (.lit (.slice none 0 0)), .d (.lit (.slice none 0 0))], .cells [.d (encSideO v1.2)]] ?_ ?_
 ·replace h := hv1; clear hv1
  refine xr ?_
  refine xp ?_
  refine xR ?_
  iterate 3 refine xp ?_
  obtain ⟨v2, hv2, h⟩ := bindO h
  refine xc (kNewSide_ok a0 t me near frame _ hv2) ?_
  iterate 3 refine xp ?_
  refine xa ?_
  cases c4 : v2.1 with
  | none =>
   have h := elN c4 h
   refine xw ?_
   refine xp ?_
   cases h
   refine xq ?_
   exact xm [0, 1, 2] ((.cons rfl (.cells (.cons (.h rfl rfl) (.cons (.h rfl rfl) (.cons (.h rfl rfl) .nil)))) (.cons rfl (.cells (.cons (.h rfl rfl) (.cons (.h rfl rfl) (.cons (.h rfl rfl) .nil)))) (.cons rfl (.cells (.cons (.h rfl rfl) .nil)) .nil)))) (xh5 (xh1 trivial))
  | some v3 =>
   have h := elS c4 h
   refine xw ?_
   refine xp ?_
   cases h
   refine xq ?_
   exact xm [0, 1, 2] ((.cons rfl (.cells (.cons (.h rfl rfl) (.cons (.h rfl rfl) (.cons (.h rfl rfl) .nil)))) (.cons rfl (.cells (.cons (.h rfl rfl) (.cons (.h rfl rfl) (.cons (.h rfl rfl) .nil)))) (.cons rfl (.cells (.cons (.h rfl rfl) .nil)) .nil)))) (xh5 (xh1 trivial))
 ·refine vc_seq ?_
  refine vc_seq ?_
  refine xk [0, 1] [(8, .own 0 0), (11, .d (.ptr [I peer])), (12, .d (.ptr [I many])), (14, .own 1 0), (15, .d (.ptr [encSideO v1.2])), (16, .d (B v1.1))] (σ' := [.cells [.d (.list 4 (t.uses.map encUse)), .d (.list 5 (t.grants.map encGrant)), .d (.list 3 (t.asks.map encAsk))], .cells [.d (.lit (.slice none 0 0)), .d (.lit (.slice none 0 0)), .d (.lit (.slice none 0 0))]]) (.cons rfl (.cells (.cons (.h rfl rfl) (.cons (.h rfl rfl) (.cons (.h rfl rfl) .nil)))) (.cons rfl (.cells (.cons (.h rfl rfl) (.cons (.h rfl rfl) (.cons (.h rfl rfl) .nil)))) .nil)) (xh3 (xh1 ⟨.z (.own' rfl (.cons .d .nil)) .refl, (xh1 trivial)⟩)) ?_
  refine vc_midQ [(8, .own 0 0), (11, .d (.ptr [I peer])), (12, .d (.ptr [I many])), (14, .own 1 0), (15, .d (.ptr [encSideO v1.2])), (38, .d (B (cond v1.1 (!(kWithin many 24)) true)))] [.cells [.d (.list 4 (t.uses.map encUse)), .d (.list 5 (t.grants.map encGrant)), .d (.list 3 (t.asks.map encAsk))], .cells [.d (.lit (.slice none 0 0)), .d (.lit (.slice none 0 0)), .d (.lit (.slice none 0 0))]] ?_ ?_
  ·refine xr ?_
   iterate 3 refine xp ?_
   cases c5 : v1.1 with
   | true =>
    refine xp ?_
    refine xc (kWithin_ok many 24 _ rfl) ?_
    iterate 2 refine xp ?_
    refine xq ?_
    exact xm [0, 1] ((.cons rfl (.cells (.cons (.h rfl rfl) (.cons (.h rfl rfl) (.cons (.h rfl rfl) .nil)))) (.cons rfl (.cells (.cons (.h rfl rfl) (.cons (.h rfl rfl) (.cons (.h rfl rfl) .nil)))) .nil))) (xh5 (xh1 trivial))
   | false =>
    iterate 3 refine xs ?_
    refine xp ?_
    refine xq ?_
    exact xm [0, 1] ((.cons rfl (.cells (.cons (.h rfl rfl) (.cons (.h rfl rfl) (.cons (.h rfl rfl) .nil)))) (.cons rfl (.cells (.cons (.h rfl rfl) (.cons (.h rfl rfl) (.cons (.h rfl rfl) .nil)))) .nil))) (xh5 (xh1 trivial))
  ·cases c6 : (cond v1.1 (!(kWithin many 24)) true) with
   | true =>
    have h := cT c6 h
    refine vc_condT rfl ?_
    refine xsr ?_
    refine xR ?_
    refine xw ?_
    refine xq ?_
    replace h := Option.some.inj h
    refine vc_ret ⟨.inr rfl, [encTable t], (.cons rfl ⟨_, .d, .refl⟩ .nil), ?_⟩
    first | (rw [← h]; done) | (rw [← h]; rfl) | (rw [← h]; simp)
   | false =>
    have h := cF c6 h
    refine vc_condF rfl ?_
    refine vc_skip ?_
    refine xsr ?_
    refine xp ?_
    refine xR ?_
    refine xp ?_
    refine xq ?_
    refine xsr ?_
    refine xp ?_
    refine xw ?_
    refine xq ?_
    refine xsr ?_
    iterate 2 refine xp ?_
    obtain ⟨v7, hv7, h⟩ := bindO h
    rw [hv7]
    obtain ⟨v8, hv8, h⟩ := bindO h
    refine xc (kBFind_ok v7 peer _ hv8) ?_
    iterate 3 refine xp ?_
    refine xa ?_
    refine xw ?_
    refine xp ?_
    refine xq ?_
    refine vc_seq ?_
    refine vc_seq ?_
    refine xk [0, 1] [(8, .own 0 0), (11, .d (.ptr [I peer])), (12, .d (.ptr [I many])), (14, .own 1 0), (15, .d (.ptr [.ptr (encSideS v7).cells])), (17, .d (.list 3 (t.asks.map encAsk))), (18, .d (.ptr (encNear v8.1).cells)), (19, .d (B v8.2))] (σ' := [.cells [.d (.list 4 (t.uses.map encUse)), .d (.list 5 (t.grants.map encGrant)), .d (.lit (.slice none 0 0))], .cells [.d (.lit (.slice none 0 0)), .d (.lit (.slice none 0 0)), .d (.lit (.slice none 0 0))]]) (.cons rfl (.cells (.cons (.h rfl rfl) (.cons (.h rfl rfl) (.cons (.h rfl rfl) .nil)))) (.cons rfl (.cells (.cons (.h rfl rfl) (.cons (.h rfl rfl) (.cons (.h rfl rfl) .nil)))) .nil)) (xh5 (xh1 ⟨.z (.own' rfl (.cons .d (.cons .d (.cons .d (.cons .d (.cons .d (.cons .d (.cons .d (.cons .d (.cons .d (.cons .d (.cons .d (.cons .d (.cons .d (.cons .d (.cons .d (.cons .d (.cons .d (.cons .d (.cons .d (.cons .d (.cons .d (.cons .d (.cons .d (.cons .d (.cons .d (.cons .d (.cons .d (.cons .d (.cons .d (.cons .d (.cons .d .nil)))))))))))))))))))))))))))))))) .refl, (xh1 trivial)⟩)) ?_
    refine xr ?_
    iterate 2 refine xp ?_
    refine xq ?_
    cases c9 : v8.2 with
    | true =>
     have h := cT c9 h
     refine vc_condF rfl ?_
     refine vc_skip ?_
     refine xsr ?_
     refine xp ?_
     refine xa ?_
     refine xw ?_
     refine xq ?_
     refine xsr ?_
     iterate 2 refine xp ?_
     obtain ⟨g10, h⟩ := gd h; replace g10 := dT g10
     refine rg [] rfl rfl rfl rfl rfl (by decide) rfl rfl (.cons (.look .d) (.cons (.look (.fn' .nil (.cons .d (.cons (.own' rfl (.cons (.fn' .nil (.cons .d (.cons (.own' rfl (.cons .d (.cons .d (.cons .d .nil)))) (.cons .d .nil)))) .nil)) .nil)))) .nil)) (onlyAsk_ok t.asks (fun a => (f41 a peer (fun a => f38 a v7 ⟨t.uses, t.grants, []⟩ ⟨v8.1.frame, v8.1.src, ⟨v8.1.t.uses, v8.1.t.grants, v8.1.t.asks⟩, ⟨v8.1.r.c2, v8.1.r.c3, v8.1.r.c4, v8.1.r.c5, v8.1.r.c6, v8.1.r.c7, v8.1.r.c8, v8.1.r.c9, v8.1.r.c10, v8.1.r.c11, v8.1.r.c15, v8.1.r.c16, v8.1.r.c17, v8.1.r.c18, v8.1.r.c19, v8.1.r.c20, v8.1.r.c21, v8.1.r.c22, v8.1.r.c23, v8.1.r.c24, v8.1.r.c25, v8.1.r.c26, v8.1.r.c27, v8.1.r.c28, v8.1.r.c29, v8.1.r.c30⟩⟩)).getD false) (fun a ha => (fun y0 r h => f41_ok y0 peer (fun y0 => f38 y0 v7 ⟨t.uses, t.grants, []⟩ ⟨v8.1.frame, v8.1.src, ⟨v8.1.t.uses, v8.1.t.grants, v8.1.t.asks⟩, ⟨v8.1.r.c2, v8.1.r.c3, v8.1.r.c4, v8.1.r.c5, v8.1.r.c6, v8.1.r.c7, v8.1.r.c8, v8.1.r.c9, v8.1.r.c10, v8.1.r.c11, v8.1.r.c15, v8.1.r.c16, v8.1.r.c17, v8.1.r.c18, v8.1.r.c19, v8.1.r.c20, v8.1.r.c21, v8.1.r.c22, v8.1.r.c23, v8.1.r.c24, v8.1.r.c25, v8.1.r.c26, v8.1.r.c27, v8.1.r.c28, v8.1.r.c29, v8.1.r.c30⟩⟩) (fun y0 r h => (f38_ok y0 v7 ⟨t.uses, t.grants, []⟩ ⟨v8.1.frame, v8.1.src, ⟨v8.1.t.uses, v8.1.t.grants, v8.1.t.asks⟩, ⟨v8.1.r.c2, v8.1.r.c3, v8.1.r.c4, v8.1.r.c5, v8.1.r.c6, v8.1.r.c7, v8.1.r.c8, v8.1.r.c9, v8.1.r.c10, v8.1.r.c11, v8.1.r.c15, v8.1.r.c16, v8.1.r.c17, v8.1.r.c18, v8.1.r.c19, v8.1.r.c20, v8.1.r.c21, v8.1.r.c22, v8.1.r.c23, v8.1.r.c24, v8.1.r.c25, v8.1.r.c26, v8.1.r.c27, v8.1.r.c28, v8.1.r.c29, v8.1.r.c30⟩⟩ r h).args (.cons .refl (.cons .refl (.cons (.ptr' (.cons .refl (.cons .refl (.cons .nil .nil)))) (.cons .refl .nil))))) r h) a _ (all_some (p := (fun a => (f41 a peer (fun a => f38 a v7 ⟨t.uses, t.grants, []⟩ ⟨v8.1.frame, v8.1.src, ⟨v8.1.t.uses, v8.1.t.grants, v8.1.t.asks⟩, ⟨v8.1.r.c2, v8.1.r.c3, v8.1.r.c4, v8.1.r.c5, v8.1.r.c6, v8.1.r.c7, v8.1.r.c8, v8.1.r.c9, v8.1.r.c10, v8.1.r.c11, v8.1.r.c15, v8.1.r.c16, v8.1.r.c17, v8.1.r.c18, v8.1.r.c19, v8.1.r.c20, v8.1.r.c21, v8.1.r.c22, v8.1.r.c23, v8.1.r.c24, v8.1.r.c25, v8.1.r.c26, v8.1.r.c27, v8.1.r.c28, v8.1.r.c29, v8.1.r.c30⟩⟩)))) g10.1 ha)) g10.2) (arrFlatAsk _) rfl rfl rfl ?_
     refine xa ?_
     refine xw ?_
     refine xq ?_
     refine xsr ?_
     refine xR ?_
     refine xR ?_
     iterate 3 refine xp ?_
     obtain ⟨g11, h⟩ := gd h; replace g11 := dT g11
     refine rtr rfl rfl rfl rfl rfl rfl rfl rfl (by simp) g11.1 g11.2 rfl ?_
     refine xw ?_
     refine xq ?_
     refine vc_seq ?_
     refine xsr ?_
     refine xp ?_
     refine xc (kTries_ok v7 _ rfl) ?_
     refine xq ?_
     refine xk [0, 1, 2, 4, 5] [(8, .own 0 0), (11, .d (.ptr [I peer])), (12, .d (.ptr [I many])), (14, .own 1 0), (20, .own 2 0), (21, .own 3 0), (63, .d (.fn (.func 89) [] [.ptr [.ptr (encSideS v7).cells]]))] (σ' := [.cells [.d (.list 4 (t.uses.map encUse)), .d (.list 5 (t.grants.map encGrant)), .d (.lit (.slice none 0 0))], .cells [.d (.lit (.slice none 0 0)), .d (.lit (.slice none 0 0)), .d (.lit (.slice none 0 0))], .cells [.fn (.func 38) [] [.d (.ptr [.ptr (encSideS v7).cells]), .own 0 0, .d (.ptr (encNear v8.1).cells)]], .cells [.osl 4 (((t.asks.filter fun a => (f41 a peer (fun a => f38 a v7 ⟨t.uses, t.grants, []⟩ ⟨v8.1.frame, v8.1.src, ⟨v8.1.t.uses, v8.1.t.grants, v8.1.t.asks⟩, ⟨v8.1.r.c2, v8.1.r.c3, v8.1.r.c4, v8.1.r.c5, v8.1.r.c6, v8.1.r.c7, v8.1.r.c8, v8.1.r.c9, v8.1.r.c10, v8.1.r.c11, v8.1.r.c15, v8.1.r.c16, v8.1.r.c17, v8.1.r.c18, v8.1.r.c19, v8.1.r.c20, v8.1.r.c21, v8.1.r.c22, v8.1.r.c23, v8.1.r.c24, v8.1.r.c25, v8.1.r.c26, v8.1.r.c27, v8.1.r.c28, v8.1.r.c29, v8.1.r.c30⟩⟩)).getD false).take ((minI ((t.asks.filter fun a => (f41 a peer (fun a => f38 a v7 ⟨t.uses, t.grants, []⟩ ⟨v8.1.frame, v8.1.src, ⟨v8.1.t.uses, v8.1.t.grants, v8.1.t.asks⟩, ⟨v8.1.r.c2, v8.1.r.c3, v8.1.r.c4, v8.1.r.c5, v8.1.r.c6, v8.1.r.c7, v8.1.r.c8, v8.1.r.c9, v8.1.r.c10, v8.1.r.c11, v8.1.r.c15, v8.1.r.c16, v8.1.r.c17, v8.1.r.c18, v8.1.r.c19, v8.1.r.c20, v8.1.r.c21, v8.1.r.c22, v8.1.r.c23, v8.1.r.c24, v8.1.r.c25, v8.1.r.c26, v8.1.r.c27, v8.1.r.c28, v8.1.r.c29, v8.1.r.c30⟩⟩)).getD false).length : Int) many).toNat)).length)], .arr 63 3 (((t.asks.filter fun a => (f41 a peer (fun a => f38 a v7 ⟨t.uses, t.grants, []⟩ ⟨v8.1.frame, v8.1.src, ⟨v8.1.t.uses, v8.1.t.grants, v8.1.t.asks⟩, ⟨v8.1.r.c2, v8.1.r.c3, v8.1.r.c4, v8.1.r.c5, v8.1.r.c6, v8.1.r.c7, v8.1.r.c8, v8.1.r.c9, v8.1.r.c10, v8.1.r.c11, v8.1.r.c15, v8.1.r.c16, v8.1.r.c17, v8.1.r.c18, v8.1.r.c19, v8.1.r.c20, v8.1.r.c21, v8.1.r.c22, v8.1.r.c23, v8.1.r.c24, v8.1.r.c25, v8.1.r.c26, v8.1.r.c27, v8.1.r.c28, v8.1.r.c29, v8.1.r.c30⟩⟩)).getD false).take ((minI ((t.asks.filter fun a => (f41 a peer (fun a => f38 a v7 ⟨t.uses, t.grants, []⟩ ⟨v8.1.frame, v8.1.src, ⟨v8.1.t.uses, v8.1.t.grants, v8.1.t.asks⟩, ⟨v8.1.r.c2, v8.1.r.c3, v8.1.r.c4, v8.1.r.c5, v8.1.r.c6, v8.1.r.c7, v8.1.r.c8, v8.1.r.c9, v8.1.r.c10, v8.1.r.c11, v8.1.r.c15, v8.1.r.c16, v8.1.r.c17, v8.1.r.c18, v8.1.r.c19, v8.1.r.c20, v8.1.r.c21, v8.1.r.c22, v8.1.r.c23, v8.1.r.c24, v8.1.r.c25, v8.1.r.c26, v8.1.r.c27, v8.1.r.c28, v8.1.r.c29, v8.1.r.c30⟩⟩)).getD false).length : Int) many).toNat)).map encAsk)]) (.cons rfl (.cells (.cons (.h rfl rfl) (.cons (.h rfl rfl) (.cons (.h rfl rfl) .nil)))) (.cons rfl (.cells (.cons (.h rfl rfl) (.cons (.h rfl rfl) (.cons (.h rfl rfl) .nil)))) (.cons rfl (.cells (.cons (.fn rfl .nil (.cons (.h rfl rfl) (.cons (.h rfl rfl) (.cons (.h rfl rfl) .nil)))) .nil)) (.cons rfl (.cells (.cons (.h (oslE rfl (by first | rfl | (simp <;> rfl) | (simp only [List.length_take]; omega))) rfl) .nil)) (.cons rfl (.arr (by first | rfl | (simp <;> rfl))) .nil))))) (xh5 (xh2 trivial)) ?_
     obtain ⟨v22, hv22, h⟩ := bindO h
     refine vc_block ?_
     refine vc_rangeFunc (S := List Ask) (enc := fun x : Cell => [encCell x]) (fun s => [.cells [.d (.list 4 (t.uses.map encUse)), .d (.list 5 (t.grants.map encGrant)), .d (.lit (.slice none 0 0))], .cells [.d (.lit (.slice none 0 0)), .d (.lit (.slice none 0 0)), .d (.lit (.slice none 0 0))], .cells [.fn (.func 38) [] [.d (.ptr [.ptr (encSideS v7).cells]), .own 0 0, .d (.ptr (encNear v8.1).cells)]], .cells [.osl 4 s.length], .arr 63 3 (s.map encAsk)]) 5 (fun _ => rfl) (fun _ => (okc rfl rfl (okc rfl rfl (okc rfl rfl (okc rfl rfl (okc rfl rfl okn)))))) (Nat.le_of_ble_eq_true rfl) ((t.asks.filter fun a => (f41 a peer (fun a => f38 a v7 ⟨t.uses, t.grants, []⟩ ⟨v8.1.frame, v8.1.src, ⟨v8.1.t.uses, v8.1.t.grants, v8.1.t.asks⟩, ⟨v8.1.r.c2, v8.1.r.c3, v8.1.r.c4, v8.1.r.c5, v8.1.r.c6, v8.1.r.c7, v8.1.r.c8, v8.1.r.c9, v8.1.r.c10, v8.1.r.c11, v8.1.r.c15, v8.1.r.c16, v8.1.r.c17, v8.1.r.c18, v8.1.r.c19, v8.1.r.c20, v8.1.r.c21, v8.1.r.c22, v8.1.r.c23, v8.1.r.c24, v8.1.r.c25, v8.1.r.c26, v8.1.r.c27, v8.1.r.c28, v8.1.r.c29, v8.1.r.c30⟩⟩)).getD false).take ((minI ((t.asks.filter fun a => (f41 a peer (fun a => f38 a v7 ⟨t.uses, t.grants, []⟩ ⟨v8.1.frame, v8.1.src, ⟨v8.1.t.uses, v8.1.t.grants, v8.1.t.asks⟩, ⟨v8.1.r.c2, v8.1.r.c3, v8.1.r.c4, v8.1.r.c5, v8.1.r.c6, v8.1.r.c7, v8.1.r.c8, v8.1.r.c9, v8.1.r.c10, v8.1.r.c11, v8.1.r.c15, v8.1.r.c16, v8.1.r.c17, v8.1.r.c18, v8.1.r.c19, v8.1.r.c20, v8.1.r.c21, v8.1.r.c22, v8.1.r.c23, v8.1.r.c24, v8.1.r.c25, v8.1.r.c26, v8.1.r.c27, v8.1.r.c28, v8.1.r.c29, v8.1.r.c30⟩⟩)).getD false).length : Int) many).toNat)) rfl rfl (envOf_all (p := V.bnd 5) rfl rfl) (envOf_ge rfl) (fun _ : Unit => Jmp.exit 0) (fun s x => kBAsk_R1 t peer many v7 v8 s x) (fun {S} step s => it89 step v7 s) (it89_it6 v7) rfl (fun _ => rfl) ?round1 v22.1 v22.2 hv22 ?rest1
     case round1 =>
      rintro p12 x13 r h R R' hR hR'
      replace h : kBAsk_R1 t peer many v7 v8 p12 x13 = some r := h
      rw [kBAsk_R1] at h
      refine xr ?_
      refine xa ?_
      refine xw ?_
      refine xq ?_
      refine ⟨rfl, rfl, ?_⟩
      show VC _ _ _ _ _ _ [.cells [.d (.list 4 (t.uses.map encUse)), .d (.list 5 (t.grants.map encGrant)), .d (.lit (.slice none 0 0))], .cells [.d (.lit (.slice none 0 0)), .d (.lit (.slice none 0 0)), .d (.lit (.slice none 0 0))], .cells [.fn (.func 38) [] [.d (.ptr [.ptr (encSideS v7).cells]), .own 0 0, .d (.ptr (encNear v8.1).cells)]], .cells [.osl 4 p12.length], .arr 63 3 (p12.map encAsk), R', .cells [.d (I x13.slot), .d (I x13.offset)]]
      refine vc_block ?_
      refine vc_seq ?_
      refine vc_seq ?_
      refine xk [0, 1, 2, 3, 4, 5] [(11, .d (.ptr [I peer])), (12, .d (.ptr [I many])), (20, .own 2 0), (21, .own 3 0), (22, .d (.ptr [I x13.slot, I x13.offset]))] (σ' := [.cells [.d (.list 4 (t.uses.map encUse)), .d (.list 5 (t.grants.map encGrant)), .d (.lit (.slice none 0 0))], .cells [.d (.lit (.slice none 0 0)), .d (.lit (.slice none 0 0)), .d (.lit (.slice none 0 0))], .cells [.fn (.func 38) [] [.d (.ptr [.ptr (encSideS v7).cells]), .own 0 0, .d (.ptr (encNear v8.1).cells)]], .cells [.osl 4 p12.length], .arr 63 3 (p12.map encAsk), R']) (.cons rfl (.cells (.cons (.h rfl rfl) (.cons (.h rfl rfl) (.cons (.h rfl rfl) .nil)))) (.cons rfl (.cells (.cons (.h rfl rfl) (.cons (.h rfl rfl) (.cons (.h rfl rfl) .nil)))) (.cons rfl (.cells (.cons (.fn rfl .nil (.cons (.h rfl rfl) (.cons (.h rfl rfl) (.cons (.h rfl rfl) .nil)))) .nil)) (.cons rfl (.cells (.cons (.h rfl rfl) .nil)) (.cons rfl (.arr (by first | rfl | (simp <;> rfl))) (.cons rfl (.self 6 rfl hR') .nil)))))) (xh3 (xh1 ⟨.z (.own' rfl (.cons .d (.cons .d .nil))) .refl, trivial⟩)) ?_
      refine xr ?_
      refine xR ?_
      iterate 3 refine xp ?_
      refine xq ?_
      cases c14 : decide ((p12.length : Int) ≥ many) with
      | true =>
       have h := cT c14 h
       refine vc_condT rfl ?_
       refine vc_exit ?_
       cases h
       exact ⟨rfl, weak_cut (ks := [0, 1, 2, 3, 4, 5]) (l := []) rfl (by decide) (.cons rfl (.cells (.cons (.h rfl rfl) (.cons (.h rfl rfl) (.cons (.h rfl rfl) .nil)))) (.cons rfl (.cells (.cons (.h rfl rfl) (.cons (.h rfl rfl) (.cons (.h rfl rfl) .nil)))) (.cons rfl (.cells (.cons (.fn rfl .nil (.cons (.h rfl rfl) (.cons (.h rfl rfl) (.cons (.h rfl rfl) .nil)))) .nil)) (.cons rfl (.cells (.cons (.h rfl rfl) .nil)) (.cons rfl (.arr (by first | rfl | (simp <;> rfl))) (.cons rfl (.self 6 rfl hR') .nil)))))) trivial⟩
      | false =>
       have h := cF c14 h
       refine vc_condF rfl ?_
       refine vc_skip ?_
       refine vc_seq ?_
       obtain ⟨v15, hv15, h⟩ := bindO h
       refine vc_midQ [(11, .d (.ptr [I peer])), (21, .own 3 0), (22, .d (.ptr [I x13.slot, I x13.offset])), (77, .d (B v15))] [.cells [.d (.list 4 (t.uses.map encUse)), .d (.list 5 (t.grants.map encGrant)), .d (.lit (.slice none 0 0))], .cells [.d (.lit (.slice none 0 0)), .d (.lit (.slice none 0 0)), .d (.lit (.slice none 0 0))], .cells [.fn (.func 38) [] [.d (.ptr [.ptr (encSideS v7).cells]), .own 0 0, .d (.ptr (encNear v8.1).cells)]], .cells [.osl 4 p12.length], .arr 63 3 (p12.map encAsk), R'] ?_ ?_
       ·replace h := hv15; clear hv15
        refine xr ?_
        refine xR ?_
        refine xp ?_
        obtain ⟨v16, hv16, h⟩ := bindO h
        refine rcr rfl rfl rfl rfl (by exact (.cons .d (.cons .d (.cons (.own' rfl (.cons .d (.cons .d (.cons .d .nil)))) (.cons .d .nil))))) ((f38_ok x13 v7 ⟨t.uses, t.grants, []⟩ ⟨v8.1.frame, v8.1.src, ⟨v8.1.t.uses, v8.1.t.grants, v8.1.t.asks⟩, ⟨v8.1.r.c2, v8.1.r.c3, v8.1.r.c4, v8.1.r.c5, v8.1.r.c6, v8.1.r.c7, v8.1.r.c8, v8.1.r.c9, v8.1.r.c10, v8.1.r.c11, v8.1.r.c15, v8.1.r.c16, v8.1.r.c17, v8.1.r.c18, v8.1.r.c19, v8.1.r.c20, v8.1.r.c21, v8.1.r.c22, v8.1.r.c23, v8.1.r.c24, v8.1.r.c25, v8.1.r.c26, v8.1.r.c27, v8.1.r.c28, v8.1.r.c29, v8.1.r.c30⟩⟩ _ hv16).args (.cons .refl (.cons .refl (.cons (.ptr' (.cons .refl (.cons .refl (.cons .nil .nil)))) (.cons .refl .nil))))) rfl ?_
        refine xp ?_
        cases c17 : v16 with
        | true =>
         have h := cT c17 h
         refine xR ?_
         refine xp ?_
         obtain ⟨v18, hv18, h⟩ := bindO h
         refine rcr rfl rfl rfl rfl (by exact (.cons (.osl rfl (by simp)) (.cons .d .nil))) (f43_ok p12 (fun y0 => some (f44 y0 ⟨x13.slot, x13.offset⟩)) (fun y0 r h => f44_ok y0 ⟨x13.slot, x13.offset⟩ r (Option.some.inj h)) _ hv18) rfl ?_
         iterate 2 refine xp ?_
         cases h
         refine xq ?_
         exact xm [0, 1, 2, 3, 4, 5] ((.cons rfl (.cells (.cons (.h rfl rfl) (.cons (.h rfl rfl) (.cons (.h rfl rfl) .nil)))) (.cons rfl (.cells (.cons (.h rfl rfl) (.cons (.h rfl rfl) (.cons (.h rfl rfl) .nil)))) (.cons rfl (.cells (.cons (.fn rfl .nil (.cons (.h rfl rfl) (.cons (.h rfl rfl) (.cons (.h rfl rfl) .nil)))) .nil)) (.cons rfl (.cells (.cons (.h rfl rfl) .nil)) (.cons rfl (.arr (by first | rfl | (simp <;> rfl))) (.cons rfl (.self 6 rfl hR') .nil))))))) (xh3 (xh1 trivial))
        | false =>
         have h := cF c17 h
         iterate 4 refine xs ?_
         refine xp ?_
         cases h
         refine xq ?_
         exact xm [0, 1, 2, 3, 4, 5] ((.cons rfl (.cells (.cons (.h rfl rfl) (.cons (.h rfl rfl) (.cons (.h rfl rfl) .nil)))) (.cons rfl (.cells (.cons (.h rfl rfl) (.cons (.h rfl rfl) (.cons (.h rfl rfl) .nil)))) (.cons rfl (.cells (.cons (.fn rfl .nil (.cons (.h rfl rfl) (.cons (.h rfl rfl) (.cons (.h rfl rfl) .nil)))) .nil)) (.cons rfl (.cells (.cons (.h rfl rfl) .nil)) (.cons rfl (.arr (by first | rfl | (simp <;> rfl))) (.cons rfl (.self 6 rfl hR') .nil))))))) (xh3 (xh1 trivial))
       ·obtain ⟨v19, hv19, h⟩ := bindO h
        refine vc_midQ [] [.cells [.d (.list 4 (t.uses.map encUse)), .d (.list 5 (t.grants.map encGrant)), .d (.lit (.slice none 0 0))], .cells [.d (.lit (.slice none 0 0)), .d (.lit (.slice none 0 0)), .d (.lit (.slice none 0 0))], .cells [.fn (.func 38) [] [.d (.ptr [.ptr (encSideS v7).cells]), .own 0 0, .d (.ptr (encNear v8.1).cells)]], .cells [.osl 4 v19.length], .arr 63 3 (v19.map encAsk), R'] ?_ ?_
        ·replace h := hv19; clear hv19
         cases c20 : v15 with
         | true =>
          have h := cT c20 h
          refine vc_condT rfl ?_
          refine xr ?_
          refine xR ?_
          iterate 3 refine xp ?_
          refine xb ?_
          obtain ⟨g21, h⟩ := gd h; replace g21 := dT g21
          refine rap rfl rfl rfl rfl rfl rfl rfl rfl .list rfl rfl rfl rfl (by simp) (by simp; omega) (by simp; omega) ?_
          refine xw ?_
          refine xq ?_
          cases h
          exact xm [0, 1, 2, 3, 4, 5] ((.cons rfl (.cells (.cons (.h rfl rfl) (.cons (.h rfl rfl) (.cons (.h rfl rfl) .nil)))) (.cons rfl (.cells (.cons (.h rfl rfl) (.cons (.h rfl rfl) (.cons (.h rfl rfl) .nil)))) (.cons rfl (.cells (.cons (.fn rfl .nil (.cons (.h rfl rfl) (.cons (.h rfl rfl) (.cons (.h rfl rfl) .nil)))) .nil)) (.cons rfl (.cells (.cons (.h (oslE rfl (by first | rfl | (simp <;> rfl) | (simp only [List.length_take]; omega))) rfl) .nil)) (.cons rfl (.arr (by first | rfl | (simp <;> rfl))) (.cons rfl (.self 6 rfl hR') .nil))))))) trivial
         | false =>
          have h := cF c20 h
          refine vc_condF rfl ?_
          refine vc_skip ?_
          cases h
          exact xm [0, 1, 2, 3, 4, 5] ((.cons rfl (.cells (.cons (.h rfl rfl) (.cons (.h rfl rfl) (.cons (.h rfl rfl) .nil)))) (.cons rfl (.cells (.cons (.h rfl rfl) (.cons (.h rfl rfl) (.cons (.h rfl rfl) .nil)))) (.cons rfl (.cells (.cons (.fn rfl .nil (.cons (.h rfl rfl) (.cons (.h rfl rfl) (.cons (.h rfl rfl) .nil)))) .nil)) (.cons rfl (.cells (.cons (.h (oslE rfl (by first | rfl | (simp <;> rfl) | (simp only [List.length_take]; omega))) rfl) .nil)) (.cons rfl (.arr (by first | rfl | (simp <;> rfl))) (.cons rfl (.self 6 rfl hR') .nil))))))) trivial
        ·cases h
         exact ⟨rfl, weak_cut (ks := [0, 1, 2, 3, 4, 5]) (l := []) rfl (by decide) (.cons rfl (.cells (.cons (.h rfl rfl) (.cons (.h rfl rfl) (.cons (.h rfl rfl) .nil)))) (.cons rfl (.cells (.cons (.h rfl rfl) (.cons (.h rfl rfl) (.cons (.h rfl rfl) .nil)))) (.cons rfl (.cells (.cons (.fn rfl .nil (.cons (.h rfl rfl) (.cons (.h rfl rfl) (.cons (.h rfl rfl) .nil)))) .nil)) (.cons rfl (.cells (.cons (.h rfl rfl) .nil)) (.cons rfl (.arr (by first | rfl | (simp <;> rfl))) (.cons rfl (.self 6 rfl hR') .nil)))))) trivial⟩
     case rest1 =>
      refine exJ_unit ?_
      refine xsr ?_
      refine xR ?_
      obtain ⟨g23, h⟩ := gd h; replace g23 := dT g23
      refine rg2 [4] rfl rfl rfl rfl rfl (by decide) rfl rfl rfl rfl (sortAsk_ok v22.1 g23) rfl rfl ?_
      refine xq ?_
      refine vc_seq ?_
      refine xk [0, 1, 3] [(8, .own 0 0), (14, .own 1 0), (21, .own 2 0)] (σ' := [.cells [.d (.list 4 (t.uses.map encUse)), .d (.list 5 (t.grants.map encGrant)), .d (.lit (.slice none 0 0))], .cells [.d (.lit (.slice none 0 0)), .d (.lit (.slice none 0 0)), .d (.lit (.slice none 0 0))], .cells [.d (.list 3 ((sortAsk v22.1).map encAsk))]]) (.cons rfl (.cells (.cons (.h rfl rfl) (.cons (.h rfl rfl) (.cons (.h rfl rfl) .nil)))) (.cons rfl (.cells (.cons (.h rfl rfl) (.cons (.h rfl rfl) (.cons (.h rfl rfl) .nil)))) (.cons rfl (.cells (.cons (.z (.osl rfl (by simp)) .refl) .nil)) .nil))) (xh3 trivial) ?_
      refine xr ?_
      refine xR ?_
      refine xp ?_
      refine xw ?_
      refine xq ?_
      refine vc_seq ?_
      refine xk [1] [(8, .d (.ptr [.list 4 (t.uses.map encUse), .list 5 (t.grants.map encGrant), .list 3 ((sortAsk v22.1).map encAsk)])), (14, .own 0 0)] (σ' := [.cells [.d (.lit (.slice none 0 0)), .d (.lit (.slice none 0 0)), .d (.lit (.slice none 0 0))]]) (.cons rfl (.cells (.cons (.h rfl rfl) (.cons (.h rfl rfl) (.cons (.h rfl rfl) .nil)))) .nil) ⟨.z (.own' rfl (.cons .d (.cons .d (.cons .d .nil)))) .refl, (xh1 trivial)⟩ ?_
      refine xr ?_
      refine xp ?_
      refine xw ?_
      refine xq ?_
      replace h := Option.some.inj h
      refine vc_ret ⟨.inr rfl, [encTable ⟨t.uses, t.grants, sortAsk v22.1⟩], (.cons rfl ⟨_, .d, .refl⟩ .nil), ?_⟩
      first | (rw [← h]; done) | (rw [← h]; rfl) | (rw [← h]; simp)
    | false =>
     have h := cF c9 h
     refine vc_condT rfl ?_
     refine xsr ?_
     refine xR ?_
     refine xw ?_
     refine xq ?_
     replace h := Option.some.inj h
     refine vc_ret ⟨.inr rfl, [encTable ⟨t.uses, t.grants, []⟩], (.cons rfl ⟨_, .d, (.agg' (.cons .refl (.cons .refl (.cons .nil .nil))))⟩ .nil), ?_⟩
     first | (rw [← h]; done) | (rw [← h]; rfl) | (rw [← h]; simp)
def kBGrant_L1 (frame : Int) (v5 : Side) : Nat → Int → (List Grant) → Option (List Grant)
 | 0, i7, p6 => some p6
 | k + 1, i7, p6 => cond (decide (0 ≤ i7 ∧ i7 < (p6.length : Int))) (Option.bind (elt p6 i7) fun v10 => Option.bind (kBFind v5 v10.peer) fun v11 => Option.bind (cond v11.2 (cond (kWasHeard v5 v11.1) (Option.bind (kTells v5 v11.1 v10.cell) fun v15 => some v15) (some false)) (some false)) fun v12 => Option.bind (cond v12 (cond (decide (0 ≤ i7 ∧ i7 < (p6.length : Int))) (Option.bind (elt p6 i7) fun v19 => some (p6.set i7.toNat ⟨⟨v19.cell.slot, v19.cell.offset⟩, v19.peer, v19.stamp, maxI v10.til (IntKind.i64.wrap (frame + 8))⟩)) none) (some p6)) fun v16 => kBGrant_L1 frame v5 k (i7 + 1) v16) none
def kBGrant_L3 (a0 : Layout) (me : Int) (frame : Int) (v5 : Side) (x24 : Near) : List Ask → (List Use) → (List Grant) → (List Ask) → Option (List Use × List Grant × List Ask)
 | [], p27, p28, p29 => some (p27, p28, p29)
 | x31 :: l, p27, p28, p29 => Option.bind (cond (x31.peer != me) (some true) (Option.bind (kBUsed v5 x31.cell x24.src) fun v35 => some v35)) fun v33 => cond v33 (kBGrant_L3 a0 me frame v5 x24 l p27 p28 p29) (Option.bind (kCellsAddGrant ⟨p27, p28, p29⟩ a0 ⟨⟨x31.cell.slot, x31.cell.offset⟩, x24.src, frame, IntKind.i64.wrap (frame + 8)⟩) fun v37 => kBGrant_L3 a0 me frame v5 x24 l (cond (v37.2 == 0) (v37.1.uses) (p27)) (cond (v37.2 == 0) (v37.1.grants) (p28)) (cond (v37.2 == 0) (v37.1.asks) (p29)))
def kBGrant_L2 (a0 : Layout) (me : Int) (frame : Int) (v5 : Side) : List Near → (List Use) → (List Grant) → (List Ask) → Option (List Use × List Grant × List Ask)
 | [], p20, p21, p22 => some (p20, p21, p22)
 | x24 :: l, p20, p21, p22 => cond (kWasHeard v5 x24) (Option.bind (kBGrant_L3 a0 me frame v5 x24 x24.t.asks p20 p21 p22) fun v32 => kBGrant_L2 a0 me frame v5 l v32.1 v32.2.1 v32.2.2) (kBGrant_L2 a0 me frame v5 l p20 p21 p22)
def kBGrant (a0 : Layout) (t : Table) (me : Int) (near : (List Near)) (frame : Int) : Option (Table) := Option.bind (kNewSide a0 t me near frame) fun v1 => cond v1.2 (cond (decide (t.uses.length ≤ 4000000 ∧ t.grants.length ≤ 4000000 ∧ t.asks.length ≤ 4000000)) (cond (decide (((expire t frame).grants).length ≤ 4000000)) (Option.bind v1.1 fun v5 => cond (decide ((((expire t frame).grants).length : Int) ≤ 9223372036854775807)) (Option.bind (kBGrant_L1 frame v5 (((((expire t frame).grants).length : Int) : Int) - 0).toNat 0 ((expire t frame).grants)) fun v8 => Option.bind (kBGrant_L2 a0 me frame v5 v5.near ((expire t frame).uses) v8 ((expire t frame).asks)) fun v25 => some ⟨v25.1, v25.2.1, v25.2.2⟩) none) none) none) (some t)
theorem kBGrant_ok (a0 : Layout) (t : Table) (me : Int) (near : (List Near)) (frame : Int) (r : Table) (h : kBGrant a0 t me near frame = some r) : PCalls Tryz.prog 13 [encLayout a0, encTable t, I me, .list 31 (near.map encNear), I frame] (encTable r) := by
 unfold kBGrant at h
 refine xe 136 Tryz.func13 ?_
 refine xsr ?_
 refine xa ?_
 refine xa ?_
 refine xa ?_
 refine xq ?_
 refine vc_scope ?_
 refine vc_seq ?_
 refine xk [1, 2] [(2, .d (I me)), (3, .d (.list 31 (near.map encNear))), (4, .d (I frame)), (5, .d (.ptr [I a0.nodes, I a0.data])), (6, .own 0 0), (10, .own 1 0)] (σ' := [.cells [.d (.list 4 (t.uses.map encUse)), .d (.list 5 (t.grants.map encGrant)), .d (.list 3 (t.asks.map encAsk))], .cells [.d (.lit (.slice none 0 0)), .d (.lit (.slice none 0 0)), .d (.lit (.slice none 0 0))]]) (.cons rfl (.cells (.cons (.h rfl rfl) (.cons (.h rfl rfl) (.cons (.h rfl rfl) .nil)))) (.cons rfl (.cells (.cons (.h rfl rfl) (.cons (.h rfl rfl) (.cons (.h rfl rfl) .nil)))) .nil)) (xh3 ⟨.z (.own' rfl (.cons .d (.cons .d .nil))) .refl, (xh2 trivial)⟩) ?_
 refine xr ?_
 refine xp ?_
 refine xR ?_
 iterate 3 refine xp ?_
 obtain ⟨v1, hv1, h⟩ := bindO h
 refine xc (kNewSide_ok a0 t me near frame _ hv1) ?_
 iterate 5 refine xp ?_
 refine xq ?_
 refine vc_seq ?_
 refine xsr ?_
 iterate 2 refine xp ?_
 refine xq ?_
 cases c2 : v1.2 with
 | true =>
  have h := cT c2 h
  refine vc_condF rfl ?_
  refine vc_skip ?_
  refine xsr ?_
  refine xR ?_
  refine xp ?_
  obtain ⟨g3, h⟩ := gd h; replace g3 := dT g3
  refine xc (expire_ok t frame ⟨g3.1, g3.2.1, g3.2.2⟩) ?_
  refine xw ?_
  refine xq ?_
  refine xsr ?_
  refine xp ?_
  refine xR ?_
  obtain ⟨g4, h⟩ := gd h; replace g4 := dT g4
  refine rg2 [] (v := .osl 2 ((expire t frame).grants).length) rfl rfl rfl rfl rfl (by decide) rfl rfl rfl rfl (cloneGrant_ok (((expire t frame).grants).map encGrant) (by simpa using g4)) (by simp [V.ren, Go.VM.ren]) rfl ?_
  refine xp ?_
  refine xw ?_
  refine xq ?_
  refine vc_seq ?_
  refine xsr ?_
  refine xp ?_
  refine xR ?_
  iterate 2 refine xp ?_
  refine xq ?_
  obtain ⟨v5, hv5, h⟩ := bindO h
  rw [hv5]
  obtain ⟨hn, h⟩ := gd h; replace hn := dT hn
  obtain ⟨v8, hv8, hLv8⟩ := bindO h
  refine vc_midQ [(2, .d (I me)), (4, .d (I frame)), (5, .d (.ptr [I a0.nodes, I a0.data])), (6, .own 0 0), (10, .own 1 0), (11, .d (.ptr (encSideS v5).cells))] [.cells [.d (.list 4 (((expire t frame).uses).map encUse)), .osl 2 v8.length, .d (.list 3 (((expire t frame).asks).map encAsk))], .cells [.d (.lit (.slice none 0 0)), .d (.lit (.slice none 0 0)), .d (.lit (.slice none 0 0))], .arr 59 5 (v8.map encGrant)] ?_ ?_
  ·refine vc_block ?_
   refine vc_loop ?_
   refine xK [0, 1, 2] [(2, .d (I me)), (4, .d (I frame)), (5, .d (.ptr [I a0.nodes, I a0.data])), (6, .own 0 0), (10, .own 1 0), (11, .d (.ptr (encSideS v5).cells)), (43, .osl 2 (((expire t frame).grants).length)), (44, .d (I (((expire t frame).grants).length : Int))), (45, .d (I 0))] (σ' := [.cells [.d (.list 4 (((expire t frame).uses).map encUse)), .osl 2 (((expire t frame).grants).length), .d (.list 3 (((expire t frame).asks).map encAsk))], .cells [.d (.lit (.slice none 0 0)), .d (.lit (.slice none 0 0)), .d (.lit (.slice none 0 0))], .arr 59 5 (((expire t frame).grants).map encGrant)]) (.cons rfl (.cells (.cons (.h rfl rfl) (.cons (.h rfl rfl) (.cons (.h rfl rfl) .nil)))) (.cons rfl (.cells (.cons (.h rfl rfl) (.cons (.h rfl rfl) (.cons (.h rfl rfl) .nil)))) (.cons rfl (.arr (by first | rfl | (simp <;> rfl))) .nil))) (xh5 (xh3 (xh1 trivial))) ?_
   refine vcl_num (((expire t frame).grants).length : Int) (fun (k : Nat) (i : Int) (s : List Grant) => kBGrant_L1 frame v5 k i s) (some v8) (fun i s => envOf [(2, .d (I me)), (4, .d (I frame)), (5, .d (.ptr [I a0.nodes, I a0.data])), (6, .own 0 0), (10, .own 1 0), (11, .d (.ptr (encSideS v5).cells)), (43, .osl 2 s.length), (44, .d (I (((expire t frame).grants).length : Int))), (45, .d (I i))]) (fun i s => [.cells [.d (.list 4 (((expire t frame).uses).map encUse)), .osl 2 s.length, .d (.list 3 (((expire t frame).asks).map encAsk))], .cells [.d (.lit (.slice none 0 0)), .d (.lit (.slice none 0 0)), .d (.lit (.slice none 0 0))], .arr 59 5 (s.map encGrant)]) ?step1 ?done1 0 ((expire t frame).grants) (by omega) hv8
   case step1 =>
    rintro k i7 p6 h0 h1 h ih
    replace h : kBGrant_L1 frame v5 (k + 1) i7 p6 = some v8 := h
    rw [kBGrant_L1] at h
    show VCL _ _ _ _ _ (envOf _) (_ :: _)
    refine vcl_unroll ?_
    refine xsr ?_
    refine xp ?_
    refine xq ?_
    refine vc_seq ?_
    refine vc_cond rfl (fun _ => ?_) (fun hf => absurd hf (by simp; omega))
    refine vc_skip ?_
    refine vc_seq ?_
    refine vc_block ?_
    refine xsr ?_
    refine xp ?_
    obtain ⟨g9, h⟩ := gd h; replace g9 := dT g9
    refine rio rfl rfl rfl rfl rfl rfl rfl rfl (by simp) g9.1 g9.2 ?_
    obtain ⟨v10, hv10, h⟩ := bindO h
    refine rlo rfl rfl rfl rfl rfl rfl rfl (by simp) (eltm _ hv10) rfl ?_
    refine xa ?_
    refine xp ?_
    refine xw ?_
    refine xq ?_
    refine vc_seq ?_
    refine xk [0, 1, 2] [(2, .d (I me)), (4, .d (I frame)), (5, .d (.ptr [I a0.nodes, I a0.data])), (6, .own 0 0), (10, .own 1 0), (11, .d (.ptr (encSideS v5).cells)), (13, .d (I i7)), (14, .d (.ptr (encGrant v10).cells)), (43, .osl 2 p6.length), (44, .d (I (((expire t frame).grants).length : Int))), (45, .d (I i7))] (σ' := [.cells [.d (.list 4 (((expire t frame).uses).map encUse)), .osl 2 p6.length, .d (.list 3 (((expire t frame).asks).map encAsk))], .cells [.d (.lit (.slice none 0 0)), .d (.lit (.slice none 0 0)), .d (.lit (.slice none 0 0))], .arr 59 5 (p6.map encGrant)]) (.cons rfl (.cells (.cons (.h rfl rfl) (.cons (.h rfl rfl) (.cons (.h rfl rfl) .nil)))) (.cons rfl (.cells (.cons (.h rfl rfl) (.cons (.h rfl rfl) (.cons (.h rfl rfl) .nil)))) (.cons rfl (.arr (by first | rfl | (simp <;> rfl))) .nil))) (xh5 (xh2 ⟨.z (.own' rfl (.cons .d (.cons .d (.cons .d (.cons .d (.cons .d .nil)))))) .refl, (xh3 trivial)⟩)) ?_
    refine xr ?_
    iterate 3 refine xp ?_
    obtain ⟨v11, hv11, h⟩ := bindO h
    refine xc (kBFind_ok v5 v10.peer _ hv11) ?_
    iterate 3 refine xp ?_
    refine xa ?_
    refine xw ?_
    refine xp ?_
    refine xq ?_
    refine vc_seq ?_
    refine xk [0, 1, 2] [(2, .d (I me)), (4, .d (I frame)), (5, .d (.ptr [I a0.nodes, I a0.data])), (6, .own 0 0), (10, .own 1 0), (11, .d (.ptr (encSideS v5).cells)), (13, .d (I i7)), (14, .d (.ptr (encGrant v10).cells)), (15, .d (.ptr (encNear v11.1).cells)), (16, .d (B v11.2)), (43, .osl 2 p6.length), (44, .d (I (((expire t frame).grants).length : Int))), (45, .d (I i7))] (σ' := [.cells [.d (.list 4 (((expire t frame).uses).map encUse)), .osl 2 p6.length, .d (.list 3 (((expire t frame).asks).map encAsk))], .cells [.d (.lit (.slice none 0 0)), .d (.lit (.slice none 0 0)), .d (.lit (.slice none 0 0))], .arr 59 5 (p6.map encGrant)]) (.cons rfl (.cells (.cons (.h rfl rfl) (.cons (.h rfl rfl) (.cons (.h rfl rfl) .nil)))) (.cons rfl (.cells (.cons (.h rfl rfl) (.cons (.h rfl rfl) (.cons (.h rfl rfl) .nil)))) (.cons rfl (.arr (by first | rfl | (simp <;> rfl))) .nil))) (xh5 (xh3 ⟨.z (.own' rfl (.cons .d (.cons .d (.cons .d (.cons .d (.cons .d (.cons .d (.cons .d (.cons .d (.cons .d (.cons .d (.cons .d (.cons .d (.cons .d (.cons .d (.cons .d (.cons .d (.cons .d (.cons .d (.cons .d (.cons .d (.cons .d (.cons .d (.cons .d (.cons .d (.cons .d (.cons .d (.cons .d (.cons .d (.cons .d (.cons .d (.cons .d .nil)))))))))))))))))))))))))))))))) .refl, (xh3 (xh1 trivial))⟩)) ?_
    obtain ⟨v12, hv12, h⟩ := bindO h
    refine vc_midQ [(2, .d (I me)), (4, .d (I frame)), (5, .d (.ptr [I a0.nodes, I a0.data])), (6, .own 0 0), (10, .own 1 0), (11, .d (.ptr (encSideS v5).cells)), (13, .d (I i7)), (14, .d (.ptr (encGrant v10).cells)), (43, .osl 2 p6.length), (44, .d (I (((expire t frame).grants).length : Int))), (45, .d (I i7)), (69, .d (B v12))] [.cells [.d (.list 4 (((expire t frame).uses).map encUse)), .osl 2 p6.length, .d (.list 3 (((expire t frame).asks).map encAsk))], .cells [.d (.lit (.slice none 0 0)), .d (.lit (.slice none 0 0)), .d (.lit (.slice none 0 0))], .arr 59 5 (p6.map encGrant)] ?_ ?_
    ·replace h := hv12; clear hv12
     refine xr ?_
     iterate 2 refine xp ?_
     cases c13 : v11.2 with
     | true =>
      have h := cT c13 h
      iterate 2 refine xp ?_
      refine xc (kWasHeard_ok v5 v11.1 _ rfl) ?_
      iterate 2 refine xp ?_
      cases c14 : (kWasHeard v5 v11.1) with
      | true =>
       have h := cT c14 h
       iterate 4 refine xp ?_
       obtain ⟨v15, hv15, h⟩ := bindO h
       refine xc (kTells_ok v5 v11.1 v10.cell _ hv15) ?_
       refine xp ?_
       cases h
       refine xq ?_
       exact xm [0, 1, 2] ((.cons rfl (.cells (.cons (.h rfl rfl) (.cons (.h rfl rfl) (.cons (.h rfl rfl) .nil)))) (.cons rfl (.cells (.cons (.h rfl rfl) (.cons (.h rfl rfl) (.cons (.h rfl rfl) .nil)))) (.cons rfl (.arr (by first | rfl | (simp <;> rfl))) .nil)))) (xh5 (xh5 (xh2 trivial)))
      | false =>
       have h := cF c14 h
       iterate 5 refine xs ?_
       refine xp ?_
       cases h
       refine xq ?_
       exact xm [0, 1, 2] ((.cons rfl (.cells (.cons (.h rfl rfl) (.cons (.h rfl rfl) (.cons (.h rfl rfl) .nil)))) (.cons rfl (.cells (.cons (.h rfl rfl) (.cons (.h rfl rfl) (.cons (.h rfl rfl) .nil)))) (.cons rfl (.arr (by first | rfl | (simp <;> rfl))) .nil)))) (xh5 (xh5 (xh2 trivial)))
     | false =>
      have h := cF c13 h
      iterate 3 refine xs ?_
      iterate 2 refine xp ?_
      iterate 5 refine xs ?_
      refine xp ?_
      cases h
      refine xq ?_
      exact xm [0, 1, 2] ((.cons rfl (.cells (.cons (.h rfl rfl) (.cons (.h rfl rfl) (.cons (.h rfl rfl) .nil)))) (.cons rfl (.cells (.cons (.h rfl rfl) (.cons (.h rfl rfl) (.cons (.h rfl rfl) .nil)))) (.cons rfl (.arr (by first | rfl | (simp <;> rfl))) .nil)))) (xh5 (xh5 (xh2 trivial)))
    ·obtain ⟨v16, hv16, h⟩ := bindO h
     refine vc_midQ [(2, .d (I me)), (4, .d (I frame)), (5, .d (.ptr [I a0.nodes, I a0.data])), (6, .own 0 0), (10, .own 1 0), (11, .d (.ptr (encSideS v5).cells)), (43, .osl 2 v16.length), (44, .d (I (((expire t frame).grants).length : Int))), (45, .d (I i7))] [.cells [.d (.list 4 (((expire t frame).uses).map encUse)), .osl 2 v16.length, .d (.list 3 (((expire t frame).asks).map encAsk))], .cells [.d (.lit (.slice none 0 0)), .d (.lit (.slice none 0 0)), .d (.lit (.slice none 0 0))], .arr 59 5 (v16.map encGrant)] ?_ ?_
     ·replace h := hv16; clear hv16
      cases c17 : v12 with
      | true =>
       have h := cT c17 h
       refine vc_condT rfl ?_
       refine xr ?_
       refine xp ?_
       refine xR ?_
       iterate 6 refine xp ?_
       obtain ⟨g18, h⟩ := gd h; replace g18 := dT g18
       refine rio rfl rfl rfl rfl rfl rfl rfl rfl (by simp) g18.1 g18.2 ?_
       refine xp ?_
       obtain ⟨v19, hv19, h⟩ := bindO h
       refine rso rfl rfl rfl rfl rfl rfl rfl rfl rfl (by simp) (eltm _ hv19) (Nat.le_of_ble_eq_true rfl) rfl ?_
       refine xq ?_
       cases h
       exact xm [0, 1, 2] ((.cons rfl (.cells (.cons (.h rfl rfl) (.cons (.h (oslE rfl (by first | rfl | (simp <;> rfl) | (simp only [List.length_take]; omega))) rfl) (.cons (.h rfl rfl) .nil)))) (.cons rfl (.cells (.cons (.h rfl rfl) (.cons (.h rfl rfl) (.cons (.h rfl rfl) .nil)))) (.cons rfl (.arr (by first | rfl | (simp <;> rfl))) .nil)))) (xh5 (xh1 ⟨.h (oslE rfl (by first | rfl | (simp <;> rfl) | (simp only [List.length_take]; omega))) rfl, (xh2 trivial)⟩))
      | false =>
       have h := cF c17 h
       refine vc_condF rfl ?_
       refine vc_skip ?_
       cases h
       exact xm [0, 1, 2] ((.cons rfl (.cells (.cons (.h rfl rfl) (.cons (.h (oslE rfl (by first | rfl | (simp <;> rfl) | (simp only [List.length_take]; omega))) rfl) (.cons (.h rfl rfl) .nil)))) (.cons rfl (.cells (.cons (.h rfl rfl) (.cons (.h rfl rfl) (.cons (.h rfl rfl) .nil)))) (.cons rfl (.arr (by first | rfl | (simp <;> rfl))) .nil)))) (xh5 (xh1 ⟨.h (oslE rfl (by first | rfl | (simp <;> rfl) | (simp only [List.length_take]; omega))) rfl, (xh2 trivial)⟩))
     ·refine xr ?_
      iterate 2 refine xp ?_
      refine xq ?_
      exact xv [0, 1, 2] (ih v16 h) (.cons rfl (.cells (.cons (.h rfl rfl) (.cons (.h rfl rfl) (.cons (.h rfl rfl) .nil)))) (.cons rfl (.cells (.cons (.h rfl rfl) (.cons (.h rfl rfl) (.cons (.h rfl rfl) .nil)))) (.cons rfl (.arr (by first | rfl | (simp <;> rfl))) .nil))) (xh5 (xh3 ⟨.e rfl (numD h0 h1 hn), trivial⟩))
   case done1 =>
    rintro i7 p6 h0 h1 h
    replace h : kBGrant_L1 frame v5 0 i7 p6 = some v8 := h
    rw [kBGrant_L1] at h
    show VCL _ _ _ _ _ (envOf _) (_ :: _)
    refine vcl_unroll ?_
    refine xsr ?_
    refine xp ?_
    refine xq ?_
    refine vc_seq ?_
    refine vc_cond rfl (fun ht => absurd ht (by simp; try omega)) (fun _ => ?_)
    refine vc_exit ?_
    cases h
    exact xm [0, 1, 2] (.cons rfl (.cells (.cons (.h rfl rfl) (.cons (.h rfl rfl) (.cons (.h rfl rfl) .nil)))) (.cons rfl (.cells (.cons (.h rfl rfl) (.cons (.h rfl rfl) (.cons (.h rfl rfl) .nil)))) (.cons rfl (.arr (by first | rfl | (simp <;> rfl))) .nil))) (xh5 (xh1 trivial))
  ·have h := hLv8
   refine vc_seq ?_
   refine vc_label ?_
   refine vc_seq ?_
   refine vc_seq ?_
   refine xk [0, 1] [(2, .d (I me)), (4, .d (I frame)), (5, .d (.ptr [I a0.nodes, I a0.data])), (6, .own 0 0), (10, .own 1 0), (11, .d (.ptr (encSideS v5).cells))] (σ' := [.cells [.d (.list 4 (((expire t frame).uses).map encUse)), .d (.list 5 (v8.map encGrant)), .d (.list 3 (((expire t frame).asks).map encAsk))], .cells [.d (.lit (.slice none 0 0)), .d (.lit (.slice none 0 0)), .d (.lit (.slice none 0 0))]]) (.cons rfl (.cells (.cons (.h rfl rfl) (.cons (.z (.osl rfl (by simp)) .refl) (.cons (.h rfl rfl) .nil)))) (.cons rfl (.cells (.cons (.h rfl rfl) (.cons (.h rfl rfl) (.cons (.h rfl rfl) .nil)))) .nil)) (xh5 (xh1 trivial)) ?_
   refine xr ?_
   iterate 4 refine xp ?_
   refine xl ?_
   refine xp ?_
   refine xq ?_
   obtain ⟨v25, hv25, hLv25⟩ := bindO h
   refine vc_midQ [(6, .own 0 0), (10, .own 1 0)] [.cells [.d (.list 4 (v25.1.map encUse)), .d (.list 5 (v25.2.1.map encGrant)), .d (.list 3 (v25.2.2.map encAsk))], .cells [.d (.lit (.slice none 0 0)), .d (.lit (.slice none 0 0)), .d (.lit (.slice none 0 0))]] ?_ ?_
   ·refine vc_block ?_
    refine vc_loop ?_
    refine xK [0, 1] [(2, .d (I me)), (4, .d (I frame)), (5, .d (.ptr [I a0.nodes, I a0.data])), (6, .own 0 0), (10, .own 1 0), (11, .d (.ptr (encSideS v5).cells)), (84, .d (.list 31 (v5.near.map encNear))), (85, .d (I (v5.near.length : Int))), (86, .d (I 0))] (σ' := [.cells [.d (.list 4 (((expire t frame).uses).map encUse)), .d (.list 5 (v8.map encGrant)), .d (.list 3 (((expire t frame).asks).map encAsk))], .cells [.d (.lit (.slice none 0 0)), .d (.lit (.slice none 0 0)), .d (.lit (.slice none 0 0))]]) (.cons rfl (.cells (.cons (.h rfl rfl) (.cons (.h rfl rfl) (.cons (.h rfl rfl) .nil)))) (.cons rfl (.cells (.cons (.h rfl rfl) (.cons (.h rfl rfl) (.cons (.h rfl rfl) .nil)))) .nil)) (xh5 (xh3 (xh1 trivial))) ?_
    refine vcl_lenS 11 rfl (.ptr 3 rfl .here) (fun hlen => ?_)
    replace hlen := len_map hlen
    refine vcl_rec v5.near (fun (pre l : List Near) (s : List Use × List Grant × List Ask) => kBGrant_L2 a0 me frame v5 l s.1 s.2.1 s.2.2) (some v25) (fun pre s => envOf [(2, .d (I me)), (4, .d (I frame)), (5, .d (.ptr [I a0.nodes, I a0.data])), (6, .own 0 0), (10, .own 1 0), (11, .d (.ptr (encSideS v5).cells)), (84, .d (.list 31 (v5.near.map encNear))), (85, .d (I (v5.near.length : Int))), (86, .d (I (pre.length : Int)))]) (fun pre s => [.cells [.d (.list 4 (s.1.map encUse)), .d (.list 5 (s.2.1.map encGrant)), .d (.list 3 (s.2.2.map encAsk))], .cells [.d (.lit (.slice none 0 0)), .d (.lit (.slice none 0 0)), .d (.lit (.slice none 0 0))]]) ?step2 ?done2 ((expire t frame).uses, v8, (expire t frame).asks) hv25
    case step2 =>
     rintro pre x24 l ⟨p20, p21, p22⟩ hpre hlt h ih
     have hprex24 := hpre
     replace h : kBGrant_L2 a0 me frame v5 (x24 :: l) p20 p21 p22 = some v25 := h
     show VCL _ _ _ _ _ (envOf _) (_ :: _)
     obtain ⟨i23, hi⟩ : ∃ i : Int, i = (pre.length : Int) := ⟨_, rfl⟩
     have hix24 := hi
     rw [← hi]
     rw [kBGrant_L2] at h
     refine vcl_unroll ?_
     refine xsr ?_
     refine xp ?_
     refine xq ?_
     refine vc_seq ?_
     refine vc_cond rfl (fun _ => ?_) (fun hf => absurd hf (by simp; omega))
     refine vc_skip ?_
     refine vc_seq ?_
     refine vc_block ?_
     refine xsr ?_
     refine ri rfl rfl rfl rfl rfl rfl rfl (by omega) (by rw [hix24]; exact idxp hprex24) ?_
     refine xp ?_
     refine xa ?_
     refine xw ?_
     refine xq ?_
     refine vc_seq ?_
     refine vc_seq ?_
     refine xk [0, 1] [(2, .d (I me)), (4, .d (I frame)), (5, .d (.ptr [I a0.nodes, I a0.data])), (6, .own 0 0), (10, .own 1 0), (11, .d (.ptr (encSideS v5).cells)), (18, .d (.ptr (encNear x24).cells)), (84, .d (.list 31 (v5.near.map encNear))), (85, .d (I (v5.near.length : Int))), (86, .d (I i23))] (σ' := [.cells [.d (.list 4 (p20.map encUse)), .d (.list 5 (p21.map encGrant)), .d (.list 3 (p22.map encAsk))], .cells [.d (.lit (.slice none 0 0)), .d (.lit (.slice none 0 0)), .d (.lit (.slice none 0 0))]]) (.cons rfl (.cells (.cons (.h rfl rfl) (.cons (.h rfl rfl) (.cons (.h rfl rfl) .nil)))) (.cons rfl (.cells (.cons (.h rfl rfl) (.cons (.h rfl rfl) (.cons (.h rfl rfl) .nil)))) .nil)) (xh5 (xh1 ⟨.z (.own' rfl (.cons .d (.cons .d (.cons .d (.cons .d (.cons .d (.cons .d (.cons .d (.cons .d (.cons .d (.cons .d (.cons .d (.cons .d (.cons .d (.cons .d (.cons .d (.cons .d (.cons .d (.cons .d (.cons .d (.cons .d (.cons .d (.cons .d (.cons .d (.cons .d (.cons .d (.cons .d (.cons .d (.cons .d (.cons .d (.cons .d (.cons .d .nil)))))))))))))))))))))))))))))))) .refl, (xh3 trivial)⟩)) ?_
     refine xr ?_
     iterate 2 refine xp ?_
     refine xc (kWasHeard_ok v5 x24 _ rfl) ?_
     refine xp ?_
     refine xq ?_
     cases c26 : (kWasHeard v5 x24) with
     | true =>
      have h := cT c26 h
      refine vc_condF rfl ?_
      refine vc_skip ?_
      refine xsr ?_
      iterate 3 refine xp ?_
      refine xl ?_
      refine xp ?_
      refine xq ?_
      obtain ⟨v32, hv32, hLv32⟩ := bindO h
      refine vc_midQ [(2, .d (I me)), (4, .d (I frame)), (5, .d (.ptr [I a0.nodes, I a0.data])), (6, .own 0 0), (10, .own 1 0), (11, .d (.ptr (encSideS v5).cells)), (84, .d (.list 31 (v5.near.map encNear))), (85, .d (I (v5.near.length : Int))), (86, .d (I i23))] [.cells [.d (.list 4 (v32.1.map encUse)), .d (.list 5 (v32.2.1.map encGrant)), .d (.list 3 (v32.2.2.map encAsk))], .cells [.d (.lit (.slice none 0 0)), .d (.lit (.slice none 0 0)), .d (.lit (.slice none 0 0))]] ?_ ?_
      ·refine vc_block ?_
       refine vc_loop ?_
       refine xK [0, 1] [(2, .d (I me)), (4, .d (I frame)), (5, .d (.ptr [I a0.nodes, I a0.data])), (6, .own 0 0), (10, .own 1 0), (11, .d (.ptr (encSideS v5).cells)), (18, .d (.ptr (encNear x24).cells)), (84, .d (.list 31 (v5.near.map encNear))), (85, .d (I (v5.near.length : Int))), (86, .d (I i23)), (96, .d (.list 3 (x24.t.asks.map encAsk))), (97, .d (I (x24.t.asks.length : Int))), (98, .d (I 0))] (σ' := [.cells [.d (.list 4 (p20.map encUse)), .d (.list 5 (p21.map encGrant)), .d (.list 3 (p22.map encAsk))], .cells [.d (.lit (.slice none 0 0)), .d (.lit (.slice none 0 0)), .d (.lit (.slice none 0 0))]]) (.cons rfl (.cells (.cons (.h rfl rfl) (.cons (.h rfl rfl) (.cons (.h rfl rfl) .nil)))) (.cons rfl (.cells (.cons (.h rfl rfl) (.cons (.h rfl rfl) (.cons (.h rfl rfl) .nil)))) .nil)) (xh5 (xh5 (xh3 trivial))) ?_
       refine vcl_lenS 11 rfl (.ptr 3 rfl (.elem (idxp hprex24) 14 rfl .here)) (fun hlen => ?_)
       replace hlen := len_map hlen
       refine vcl_rec x24.t.asks (fun (pre l : List Ask) (s : List Use × List Grant × List Ask) => kBGrant_L3 a0 me frame v5 x24 l s.1 s.2.1 s.2.2) (some v32) (fun pre s => envOf [(2, .d (I me)), (4, .d (I frame)), (5, .d (.ptr [I a0.nodes, I a0.data])), (6, .own 0 0), (10, .own 1 0), (11, .d (.ptr (encSideS v5).cells)), (18, .d (.ptr (encNear x24).cells)), (84, .d (.list 31 (v5.near.map encNear))), (85, .d (I (v5.near.length : Int))), (86, .d (I i23)), (96, .d (.list 3 (x24.t.asks.map encAsk))), (97, .d (I (x24.t.asks.length : Int))), (98, .d (I (pre.length : Int)))]) (fun pre s => [.cells [.d (.list 4 (s.1.map encUse)), .d (.list 5 (s.2.1.map encGrant)), .d (.list 3 (s.2.2.map encAsk))], .cells [.d (.lit (.slice none 0 0)), .d (.lit (.slice none 0 0)), .d (.lit (.slice none 0 0))]]) ?step3 ?done3 (p20, p21, p22) hv32
       case step3 =>
        rintro pre x31 l ⟨p27, p28, p29⟩ hpre hlt h ih
        have hprex31 := hpre
        replace h : kBGrant_L3 a0 me frame v5 x24 (x31 :: l) p27 p28 p29 = some v32 := h
        show VCL _ _ _ _ _ (envOf _) (_ :: _)
        obtain ⟨i30, hi⟩ : ∃ i : Int, i = (pre.length : Int) := ⟨_, rfl⟩
        have hix31 := hi
        rw [← hi]
        rw [kBGrant_L3] at h
        refine vcl_unroll ?_
        refine xsr ?_
        refine xp ?_
        refine xq ?_
        refine vc_seq ?_
        refine vc_cond rfl (fun _ => ?_) (fun hf => absurd hf (by simp; omega))
        refine vc_skip ?_
        refine vc_seq ?_
        refine vc_block ?_
        refine xsr ?_
        refine ri rfl rfl rfl rfl rfl rfl rfl (by omega) (by rw [hix31]; exact idxp hprex31) ?_
        refine xp ?_
        refine xa ?_
        refine xw ?_
        refine xq ?_
        refine vc_seq ?_
        refine vc_seq ?_
        refine xk [0, 1] [(2, .d (I me)), (4, .d (I frame)), (5, .d (.ptr [I a0.nodes, I a0.data])), (6, .own 0 0), (10, .own 1 0), (11, .d (.ptr (encSideS v5).cells)), (18, .d (.ptr (encNear x24).cells)), (20, .d (.ptr [I x31.cell.slot, I x31.cell.offset, I x31.peer])), (84, .d (.list 31 (v5.near.map encNear))), (85, .d (I (v5.near.length : Int))), (86, .d (I i23)), (96, .d (.list 3 (x24.t.asks.map encAsk))), (97, .d (I (x24.t.asks.length : Int))), (98, .d (I i30))] (σ' := [.cells [.d (.list 4 (p27.map encUse)), .d (.list 5 (p28.map encGrant)), .d (.list 3 (p29.map encAsk))], .cells [.d (.lit (.slice none 0 0)), .d (.lit (.slice none 0 0)), .d (.lit (.slice none 0 0))]]) (.cons rfl (.cells (.cons (.h rfl rfl) (.cons (.h rfl rfl) (.cons (.h rfl rfl) .nil)))) (.cons rfl (.cells (.cons (.h rfl rfl) (.cons (.h rfl rfl) (.cons (.h rfl rfl) .nil)))) .nil)) (xh5 (xh2 ⟨.z (.own' rfl (.cons .d (.cons .d (.cons .d .nil)))) .refl, (xh5 (xh1 trivial))⟩)) ?_
        obtain ⟨v33, hv33, h⟩ := bindO h
        refine vc_midQ [(2, .d (I me)), (4, .d (I frame)), (5, .d (.ptr [I a0.nodes, I a0.data])), (6, .own 0 0), (10, .own 1 0), (11, .d (.ptr (encSideS v5).cells)), (18, .d (.ptr (encNear x24).cells)), (20, .d (.ptr [I x31.cell.slot, I x31.cell.offset, I x31.peer])), (84, .d (.list 31 (v5.near.map encNear))), (85, .d (I (v5.near.length : Int))), (86, .d (I i23)), (96, .d (.list 3 (x24.t.asks.map encAsk))), (97, .d (I (x24.t.asks.length : Int))), (98, .d (I i30)), (114, .d (B v33))] [.cells [.d (.list 4 (p27.map encUse)), .d (.list 5 (p28.map encGrant)), .d (.list 3 (p29.map encAsk))], .cells [.d (.lit (.slice none 0 0)), .d (.lit (.slice none 0 0)), .d (.lit (.slice none 0 0))]] ?_ ?_
        ·replace h := hv33; clear hv33
         refine xr ?_
         iterate 5 refine xp ?_
         cases c34 : (x31.peer != me) with
         | true =>
          have h := cT c34 h
          iterate 7 refine xs ?_
          refine xp ?_
          cases h
          refine xq ?_
          exact xm [0, 1] ((.cons rfl (.cells (.cons (.h rfl rfl) (.cons (.h rfl rfl) (.cons (.h rfl rfl) .nil)))) (.cons rfl (.cells (.cons (.h rfl rfl) (.cons (.h rfl rfl) (.cons (.h rfl rfl) .nil)))) .nil))) (xh5 (xh5 (xh5 trivial)))
         | false =>
          have h := cF c34 h
          iterate 6 refine xp ?_
          obtain ⟨v35, hv35, h⟩ := bindO h
          refine xc (kBUsed_ok v5 x31.cell x24.src _ hv35) ?_
          refine xp ?_
          cases h
          refine xq ?_
          exact xm [0, 1] ((.cons rfl (.cells (.cons (.h rfl rfl) (.cons (.h rfl rfl) (.cons (.h rfl rfl) .nil)))) (.cons rfl (.cells (.cons (.h rfl rfl) (.cons (.h rfl rfl) (.cons (.h rfl rfl) .nil)))) .nil))) (xh5 (xh5 (xh5 trivial)))
        ·cases c36 : v33 with
         | true =>
          have h := cT c36 h
          refine vc_condT rfl ?_
          refine vc_exit ?_
          refine xr ?_
          iterate 2 refine xp ?_
          refine xq ?_
          exact xv [0, 1] (ih (p27, p28, p29) h) (.cons rfl (.cells (.cons (.h rfl rfl) (.cons (.h rfl rfl) (.cons (.h rfl rfl) .nil)))) (.cons rfl (.cells (.cons (.h rfl rfl) (.cons (.h rfl rfl) (.cons (.h rfl rfl) .nil)))) .nil)) (xh5 (xh5 (xh2 ⟨.e rfl (cntI hi hlt hlen), trivial⟩)))
         | false =>
          have h := cF c36 h
          refine vc_condF rfl ?_
          refine vc_skip ?_
          refine xsr ?_
          refine xR ?_
          iterate 10 refine xp ?_
          obtain ⟨v37, hv37, h⟩ := bindO h
          refine xc (kCellsAddGrant_ok ⟨p27, p28, p29⟩ a0 ⟨⟨x31.cell.slot, x31.cell.offset⟩, x24.src, frame, IntKind.i64.wrap (frame + 8)⟩ _ hv37) ?_
          iterate 3 refine xp ?_
          refine xa ?_
          refine xw ?_
          refine xp ?_
          refine xq ?_
          refine vc_seq ?_
          refine xk [0, 1] [(2, .d (I me)), (4, .d (I frame)), (5, .d (.ptr [I a0.nodes, I a0.data])), (6, .own 0 0), (10, .own 1 0), (11, .d (.ptr (encSideS v5).cells)), (18, .d (.ptr (encNear x24).cells)), (21, .d (.ptr [.list 4 (v37.1.uses.map encUse), .list 5 (v37.1.grants.map encGrant), .list 3 (v37.1.asks.map encAsk)])), (22, .d (I v37.2)), (84, .d (.list 31 (v5.near.map encNear))), (85, .d (I (v5.near.length : Int))), (86, .d (I i23)), (96, .d (.list 3 (x24.t.asks.map encAsk))), (97, .d (I (x24.t.asks.length : Int))), (98, .d (I i30))] (σ' := [.cells [.d (.list 4 (p27.map encUse)), .d (.list 5 (p28.map encGrant)), .d (.list 3 (p29.map encAsk))], .cells [.d (.lit (.slice none 0 0)), .d (.lit (.slice none 0 0)), .d (.lit (.slice none 0 0))]]) (.cons rfl (.cells (.cons (.h rfl rfl) (.cons (.h rfl rfl) (.cons (.h rfl rfl) .nil)))) (.cons rfl (.cells (.cons (.h rfl rfl) (.cons (.h rfl rfl) (.cons (.h rfl rfl) .nil)))) .nil)) (xh5 (xh2 ⟨.z (.own' rfl (.cons .d (.cons .d (.cons .d .nil)))) .refl, (xh5 (xh2 trivial))⟩)) ?_
          refine xr ?_
          iterate 2 refine xp ?_
          refine xq ?_
          refine vc_midQ [(2, .d (I me)), (4, .d (I frame)), (5, .d (.ptr [I a0.nodes, I a0.data])), (6, .own 0 0), (10, .own 1 0), (11, .d (.ptr (encSideS v5).cells)), (18, .d (.ptr (encNear x24).cells)), (84, .d (.list 31 (v5.near.map encNear))), (85, .d (I (v5.near.length : Int))), (86, .d (I i23)), (96, .d (.list 3 (x24.t.asks.map encAsk))), (97, .d (I (x24.t.asks.length : Int))), (98, .d (I i30))] [.cells [.d (.list 4 ((cond (v37.2 == 0) (v37.1.uses) (p27)).map encUse)), .d (.list 5 ((cond (v37.2 == 0) (v37.1.grants) (p28)).map encGrant)), .d (.list 3 ((cond (v37.2 == 0) (v37.1.asks) (p29)).map encAsk))], .cells [.d (.lit (.slice none 0 0)), .d (.lit (.slice none 0 0)), .d (.lit (.slice none 0 0))]] ?_ ?_
          ·cases c38 : (v37.2 == 0) with
           | true =>
            refine vc_condT rfl ?_
            refine xr ?_
            refine xp ?_
            refine xw ?_
            refine xq ?_
            exact xm [0, 1] ((.cons rfl (.cells (.cons (.h rfl rfl) (.cons (.h rfl rfl) (.cons (.h rfl rfl) .nil)))) (.cons rfl (.cells (.cons (.h rfl rfl) (.cons (.h rfl rfl) (.cons (.h rfl rfl) .nil)))) .nil))) (xh5 (xh5 (xh3 trivial)))
           | false =>
            refine vc_condF rfl ?_
            refine vc_skip ?_
            exact xm [0, 1] ((.cons rfl (.cells (.cons (.h rfl rfl) (.cons (.h rfl rfl) (.cons (.h rfl rfl) .nil)))) (.cons rfl (.cells (.cons (.h rfl rfl) (.cons (.h rfl rfl) (.cons (.h rfl rfl) .nil)))) .nil))) (xh5 (xh5 (xh3 trivial)))
          ·refine xr ?_
           iterate 2 refine xp ?_
           refine xq ?_
           exact xv [0, 1] (ih ((cond (v37.2 == 0) (v37.1.uses) (p27)), (cond (v37.2 == 0) (v37.1.grants) (p28)), (cond (v37.2 == 0) (v37.1.asks) (p29))) h) (.cons rfl (.cells (.cons (.h rfl rfl) (.cons (.h rfl rfl) (.cons (.h rfl rfl) .nil)))) (.cons rfl (.cells (.cons (.h rfl rfl) (.cons (.h rfl rfl) (.cons (.h rfl rfl) .nil)))) .nil)) (xh5 (xh5 (xh2 ⟨.e rfl (cntI hi hlt hlen), trivial⟩)))
       case done3 =>
        rintro ⟨p27, p28, p29⟩ h
        replace h : kBGrant_L3 a0 me frame v5 x24 [] p27 p28 p29 = some v32 := h
        rw [kBGrant_L3] at h
        show VCL _ _ _ _ _ (envOf _) (_ :: _)
        refine vcl_unroll ?_
        refine xsr ?_
        refine xp ?_
        refine xq ?_
        refine vc_seq ?_
        refine vc_cond rfl (fun ht => absurd ht (by simp; try omega)) (fun _ => ?_)
        refine vc_exit ?_
        cases h
        exact xm [0, 1] (.cons rfl (.cells (.cons (.h rfl rfl) (.cons (.h rfl rfl) (.cons (.h rfl rfl) .nil)))) (.cons rfl (.cells (.cons (.h rfl rfl) (.cons (.h rfl rfl) (.cons (.h rfl rfl) .nil)))) .nil)) (xh5 (xh3 (xh1 trivial)))
      ·have h := hLv32
       refine xr ?_
       iterate 2 refine xp ?_
       refine xq ?_
       exact xv [0, 1] (ih (v32.1, v32.2.1, v32.2.2) h) (.cons rfl (.cells (.cons (.h rfl rfl) (.cons (.h rfl rfl) (.cons (.h rfl rfl) .nil)))) (.cons rfl (.cells (.cons (.h rfl rfl) (.cons (.h rfl rfl) (.cons (.h rfl rfl) .nil)))) .nil)) (xh5 (xh3 ⟨.e rfl (cntI hi hlt hlen), trivial⟩))
     | false =>
      have h := cF c26 h
      refine vc_condT rfl ?_
      refine vc_exit ?_
      refine xr ?_
      iterate 2 refine xp ?_
      refine xq ?_
      exact xv [0, 1] (ih (p20, p21, p22) h) (.cons rfl (.cells (.cons (.h rfl rfl) (.cons (.h rfl rfl) (.cons (.h rfl rfl) .nil)))) (.cons rfl (.cells (.cons (.h rfl rfl) (.cons (.h rfl rfl) (.cons (.h rfl rfl) .nil)))) .nil)) (xh5 (xh3 ⟨.e rfl (cntI hi hlt hlen), trivial⟩))
    case done2 =>
     rintro ⟨p20, p21, p22⟩ h
     replace h : kBGrant_L2 a0 me frame v5 [] p20 p21 p22 = some v25 := h
     rw [kBGrant_L2] at h
     show VCL _ _ _ _ _ (envOf _) (_ :: _)
     refine vcl_unroll ?_
     refine xsr ?_
     refine xp ?_
     refine xq ?_
     refine vc_seq ?_
     refine vc_cond rfl (fun ht => absurd ht (by simp; try omega)) (fun _ => ?_)
     refine vc_exit ?_
     cases h
     exact xm [0, 1] (.cons rfl (.cells (.cons (.h rfl rfl) (.cons (.h rfl rfl) (.cons (.h rfl rfl) .nil)))) (.cons rfl (.cells (.cons (.h rfl rfl) (.cons (.h rfl rfl) (.cons (.h rfl rfl) .nil)))) .nil)) (xh2 trivial)
   ·have h := hLv25
    refine xsr ?_
    refine xR ?_
    refine xw ?_
    refine xq ?_
    replace h := Option.some.inj h
    refine vc_ret ⟨.inr rfl, [encTable ⟨v25.1, v25.2.1, v25.2.2⟩], (.cons rfl ⟨_, .d, .refl⟩ .nil), ?_⟩
    first | (rw [← h]; done) | (rw [← h]; rfl) | (rw [← h]; simp)
 | false =>
  have h := cF c2 h
  refine vc_condT rfl ?_
  refine xsr ?_
  refine xR ?_
  refine xw ?_
  refine xq ?_
  replace h := Option.some.inj h
  refine vc_ret ⟨.inr rfl, [encTable t], (.cons rfl ⟨_, .d, .refl⟩ .nil), ?_⟩
  first | (rw [← h]; done) | (rw [← h]; rfl) | (rw [← h]; simp)
def kBTake_L1 : List Ask → (List (Int × Bool)) → Option (List (Int × Bool))
 | [], p3 => some p3
 | x5 :: l, p3 => kBTake_L1 l (mputT x5.peer true p3)
def kBTake_L2 (v7 : Side) : List Use → (List (Int × Bool)) → (List Use) → Option (List (Int × Bool) × List Use)
 | [], p8, p9 => some (p8, p9)
 | x11 :: l, p8, p9 => Option.bind (kBFind v7 x11.peer) fun v13 => Option.bind (kBGranted v7 v13.1) fun v14 => Option.bind (f54 v14 (fun y0 => some (f55 y0 ⟨⟨x11.cell.slot, x11.cell.offset⟩, x11.peer, x11.stamp⟩))) fun v15 => Option.bind (cond (decide (v15 ≥ 0)) (Option.bind (elt v14 v15) fun v18 => cond (decide (p9.length + 1 ≤ 4294967296)) (some (p9 ++ ([⟨⟨x11.cell.slot, x11.cell.offset⟩, x11.peer, v18.stamp⟩] : List Use))) none) (some p9)) fun v16 => kBTake_L2 v7 l (mputT x11.peer true p8) v16
def kBTake_L4 (a0 : Layout) (x24 : Near) : List Grant → (List Use) → (List Grant) → (List Ask) → Option (List Use × List Grant × List Ask)
 | [], p28, p29, p30 => some (p28, p29, p30)
 | x32 :: l, p28, p29, p30 => Option.bind (kCellsAddUse ⟨p28, p29, p30⟩ a0 ⟨⟨x32.cell.slot, x32.cell.offset⟩, x24.src, x32.stamp⟩) fun v34 => kBTake_L4 a0 x24 l (cond (v34.2 == 0) (v34.1.uses) (p28)) (cond (v34.2 == 0) (v34.1.grants) (p29)) (cond (v34.2 == 0) (v34.1.asks) (p30))
def kBTake_L3 (a0 : Layout) (v7 : Side) (v12 : List (Int × Bool) × List Use) : List Near → (List Use) → (List Grant) → (List Ask) → Option (List Use × List Grant × List Ask)
 | [], p20, p21, p22 => some (p20, p21, p22)
 | x24 :: l, p20, p21, p22 => cond (mgetT x24.src false (v12.1 : List (Int × Bool))) (Option.bind (kBGranted v7 x24) fun v27 => Option.bind (kBTake_L4 a0 x24 v27 p20 p21 p22) fun v33 => kBTake_L3 a0 v7 v12 l v33.1 v33.2.1 v33.2.2) (kBTake_L3 a0 v7 v12 l p20 p21 p22)
def kBTake (a0 : Layout) (t : Table) (me : Int) (near : (List Near)) (frame : Int) : Option (Table) := Option.bind (kNewSide a0 t me near frame) fun v1 => cond v1.2 (Option.bind (kBTake_L1 t.asks ([] : List (Int × Bool))) fun v6 => Option.bind v1.1 fun v7 => Option.bind (kBTake_L2 v7 t.uses v6 []) fun v12 => Option.bind (kBTake_L3 a0 v7 v12 v7.near v12.2 t.grants t.asks) fun v25 => some ⟨v25.1, v25.2.1, v25.2.2⟩) (some t)
theorem kBTake_ok (a0 : Layout) (t : Table) (me : Int) (near : (List Near)) (frame : Int) (r : Table) (h : kBTake a0 t me near frame = some r) : PCalls Tryz.prog 14 [encLayout a0, encTable t, I me, .list 31 (near.map encNear), I frame] (encTable r) := by
 unfold kBTake at h
 refine xe 134 Tryz.func14 ?_
 refine xsr ?_
 refine xa ?_
 refine xa ?_
 refine xa ?_
 refine xq ?_
 refine vc_seq ?_
 refine xk [1, 2] [(2, .d (I me)), (3, .d (.list 31 (near.map encNear))), (4, .d (I frame)), (5, .d (.ptr [I a0.nodes, I a0.data])), (6, .own 0 0), (10, .own 1 0)] (σ' := [.cells [.d (.list 4 (t.uses.map encUse)), .d (.list 5 (t.grants.map encGrant)), .d (.list 3 (t.asks.map encAsk))], .cells [.d (.lit (.slice none 0 0)), .d (.lit (.slice none 0 0)), .d (.lit (.slice none 0 0))]]) (.cons rfl (.cells (.cons (.h rfl rfl) (.cons (.h rfl rfl) (.cons (.h rfl rfl) .nil)))) (.cons rfl (.cells (.cons (.h rfl rfl) (.cons (.h rfl rfl) (.cons (.h rfl rfl) .nil)))) .nil)) (xh3 ⟨.z (.own' rfl (.cons .d (.cons .d .nil))) .refl, (xh2 trivial)⟩) ?_
 refine xr ?_
 refine xp ?_
 refine xR ?_
 iterate 3 refine xp ?_
 obtain ⟨v1, hv1, h⟩ := bindO h
 refine xc (kNewSide_ok a0 t me near frame _ hv1) ?_
 iterate 5 refine xp ?_
 refine xq ?_
 refine vc_seq ?_
 refine xsr ?_
 iterate 2 refine xp ?_
 refine xq ?_
 cases c2 : v1.2 with
 | true =>
  have h := cT c2 h
  refine vc_condF rfl ?_
  refine vc_skip ?_
  refine xsr ?_
  refine rmm rfl rfl rfl rfl ?_
  refine xp ?_
  refine xq ?_
  refine vc_seq ?_
  refine xsr ?_
  refine xp ?_
  refine xR ?_
  refine xl ?_
  refine xp ?_
  refine xq ?_
  obtain ⟨v6, hv6, hLv6⟩ := bindO h
  refine vc_midQ [(5, .d (.ptr [I a0.nodes, I a0.data])), (6, .own 0 0), (10, .own 1 0), (11, .d (encSideO v1.1)), (13, .omap 2)] [.cells [.d (.list 4 (t.uses.map encUse)), .d (.list 5 (t.grants.map encGrant)), .d (.list 3 (t.asks.map encAsk))], .cells [.d (.lit (.slice none 0 0)), .d (.lit (.slice none 0 0)), .d (.lit (.slice none 0 0))], .map (ents .i64 (v6.map fun y => (y.1, B y.2)))] ?_ ?_
  ·refine vc_block ?_
   refine vc_loop ?_
   refine xK [0, 1, 2] [(5, .d (.ptr [I a0.nodes, I a0.data])), (6, .own 0 0), (10, .own 1 0), (11, .d (encSideO v1.1)), (13, .omap 2), (43, .d (.list 3 (t.asks.map encAsk))), (44, .d (I (t.asks.length : Int))), (45, .d (I 0))] (σ' := [.cells [.d (.list 4 (t.uses.map encUse)), .d (.list 5 (t.grants.map encGrant)), .d (.list 3 (t.asks.map encAsk))], .cells [.d (.lit (.slice none 0 0)), .d (.lit (.slice none 0 0)), .d (.lit (.slice none 0 0))], .map (ents .i64 (([] : List (Int × Bool)).map fun y => (y.1, B y.2)))]) (.cons rfl (.cells (.cons (.h rfl rfl) (.cons (.h rfl rfl) (.cons (.h rfl rfl) .nil)))) (.cons rfl (.cells (.cons (.h rfl rfl) (.cons (.h rfl rfl) (.cons (.h rfl rfl) .nil)))) (.cons rfl (.map rfl) .nil))) (xh5 (xh3 trivial)) ?_
   refine vcl_len 43 rfl (fun hlen => ?_)
   replace hlen := len_map hlen
   refine vcl_rec t.asks (fun (pre l : List Ask) (s : List (Int × Bool)) => kBTake_L1 l s) (some v6) (fun pre s => envOf [(5, .d (.ptr [I a0.nodes, I a0.data])), (6, .own 0 0), (10, .own 1 0), (11, .d (encSideO v1.1)), (13, .omap 2), (43, .d (.list 3 (t.asks.map encAsk))), (44, .d (I (t.asks.length : Int))), (45, .d (I (pre.length : Int)))]) (fun pre s => [.cells [.d (.list 4 (t.uses.map encUse)), .d (.list 5 (t.grants.map encGrant)), .d (.list 3 (t.asks.map encAsk))], .cells [.d (.lit (.slice none 0 0)), .d (.lit (.slice none 0 0)), .d (.lit (.slice none 0 0))], .map (ents .i64 (s.map fun y => (y.1, B y.2)))]) ?step1 ?done1 ([] : List (Int × Bool)) hv6
   case step1 =>
    rintro pre x5 l p3 hpre hlt h ih
    have hprex5 := hpre
    replace h : kBTake_L1 (x5 :: l) p3 = some v6 := h
    show VCL _ _ _ _ _ (envOf _) (_ :: _)
    obtain ⟨i4, hi⟩ : ∃ i : Int, i = (pre.length : Int) := ⟨_, rfl⟩
    have hix5 := hi
    rw [← hi]
    rw [kBTake_L1] at h
    refine vcl_unroll ?_
    refine xsr ?_
    refine xp ?_
    refine xq ?_
    refine vc_seq ?_
    refine vc_cond rfl (fun _ => ?_) (fun hf => absurd hf (by simp; omega))
    refine vc_skip ?_
    refine vc_seq ?_
    refine vc_block ?_
    refine xsr ?_
    refine ri rfl rfl rfl rfl rfl rfl rfl (by omega) (by rw [hix5]; exact idxp hprex5) ?_
    refine xp ?_
    refine xa ?_
    refine xw ?_
    refine xq ?_
    refine xk [0, 1, 2] [(5, .d (.ptr [I a0.nodes, I a0.data])), (6, .own 0 0), (10, .own 1 0), (11, .d (encSideO v1.1)), (13, .omap 2), (15, .d (.ptr [I x5.cell.slot, I x5.cell.offset, I x5.peer])), (43, .d (.list 3 (t.asks.map encAsk))), (44, .d (I (t.asks.length : Int))), (45, .d (I i4))] (σ' := [.cells [.d (.list 4 (t.uses.map encUse)), .d (.list 5 (t.grants.map encGrant)), .d (.list 3 (t.asks.map encAsk))], .cells [.d (.lit (.slice none 0 0)), .d (.lit (.slice none 0 0)), .d (.lit (.slice none 0 0))], .map (ents .i64 (p3.map fun y => (y.1, B y.2)))]) (.cons rfl (.cells (.cons (.h rfl rfl) (.cons (.h rfl rfl) (.cons (.h rfl rfl) .nil)))) (.cons rfl (.cells (.cons (.h rfl rfl) (.cons (.h rfl rfl) (.cons (.h rfl rfl) .nil)))) (.cons rfl (.map rfl) .nil))) (xh5 ⟨.z (.own' rfl (.cons .d (.cons .d (.cons .d .nil)))) .refl, (xh3 trivial)⟩) ?_
    refine xr ?_
    iterate 3 refine xp ?_
    refine rmuT (fun v => B v) true (p3 : List (Int × Bool)) rfl rfl rfl rfl rfl rfl rfl rfl ?_
    refine xq ?_
    refine xr ?_
    iterate 2 refine xp ?_
    refine xq ?_
    exact xv [0, 1, 2] (ih (mputT x5.peer true p3) h) (.cons rfl (.cells (.cons (.h rfl rfl) (.cons (.h rfl rfl) (.cons (.h rfl rfl) .nil)))) (.cons rfl (.cells (.cons (.h rfl rfl) (.cons (.h rfl rfl) (.cons (.h rfl rfl) .nil)))) (.cons rfl (.map rfl) .nil))) (xh5 (xh2 ⟨.e rfl (cntI hi hlt hlen), trivial⟩))
   case done1 =>
    rintro p3 h
    replace h : kBTake_L1 [] p3 = some v6 := h
    rw [kBTake_L1] at h
    show VCL _ _ _ _ _ (envOf _) (_ :: _)
    refine vcl_unroll ?_
    refine xsr ?_
    refine xp ?_
    refine xq ?_
    refine vc_seq ?_
    refine vc_cond rfl (fun ht => absurd ht (by simp; try omega)) (fun _ => ?_)
    refine vc_exit ?_
    cases h
    exact xm [0, 1, 2] (.cons rfl (.cells (.cons (.h rfl rfl) (.cons (.h rfl rfl) (.cons (.h rfl rfl) .nil)))) (.cons rfl (.cells (.cons (.h rfl rfl) (.cons (.h rfl rfl) (.cons (.h rfl rfl) .nil)))) (.cons rfl (.map rfl) .nil))) (xh5 trivial)
  ·have h := hLv6
   refine xsr ?_
   refine xp ?_
   refine xq ?_
   refine vc_seq ?_
   refine xsr ?_
   refine xp ?_
   refine xR ?_
   refine xl ?_
   refine xp ?_
   refine xq ?_
   obtain ⟨v7, hv7, h⟩ := bindO h
   rw [hv7]
   refine VC.weak (weak_ownNil 16 61 4 rfl rfl) ?_
   obtain ⟨v12, hv12, hLv12⟩ := bindO h
   refine vc_midQ [(5, .d (.ptr [I a0.nodes, I a0.data])), (6, .own 0 0), (10, .own 1 0), (11, .d (.ptr (encSideS v7).cells)), (13, .omap 2), (16, .osl 3 v12.2.length)] [.cells [.d (.list 4 (t.uses.map encUse)), .d (.list 5 (t.grants.map encGrant)), .d (.list 3 (t.asks.map encAsk))], .cells [.d (.lit (.slice none 0 0)), .d (.lit (.slice none 0 0)), .d (.lit (.slice none 0 0))], .map (ents .i64 (v12.1.map fun y => (y.1, B y.2))), .arr 61 4 (v12.2.map encUse)] ?_ ?_
   ·refine vc_block ?_
    refine vc_loop ?_
    refine xK [0, 1, 2, 3] [(5, .d (.ptr [I a0.nodes, I a0.data])), (6, .own 0 0), (10, .own 1 0), (11, .d (.ptr (encSideS v7).cells)), (13, .omap 2), (16, .osl 3 0), (54, .d (.list 4 (t.uses.map encUse))), (55, .d (I (t.uses.length : Int))), (56, .d (I 0))] (σ' := [.cells [.d (.list 4 (t.uses.map encUse)), .d (.list 5 (t.grants.map encGrant)), .d (.list 3 (t.asks.map encAsk))], .cells [.d (.lit (.slice none 0 0)), .d (.lit (.slice none 0 0)), .d (.lit (.slice none 0 0))], .map (ents .i64 (v6.map fun y => (y.1, B y.2))), .arr 61 4 ([].map encUse)]) (.cons rfl (.cells (.cons (.h rfl rfl) (.cons (.h rfl rfl) (.cons (.h rfl rfl) .nil)))) (.cons rfl (.cells (.cons (.h rfl rfl) (.cons (.h rfl rfl) (.cons (.h rfl rfl) .nil)))) (.cons rfl (.map rfl) (.cons rfl (.arr (by first | rfl | (simp <;> rfl))) .nil)))) (xh5 (xh3 (xh1 trivial))) ?_
    refine vcl_len 54 rfl (fun hlen => ?_)
    replace hlen := len_map hlen
    refine vcl_rec t.uses (fun (pre l : List Use) (s : List (Int × Bool) × List Use) => kBTake_L2 v7 l s.1 s.2) (some v12) (fun pre s => envOf [(5, .d (.ptr [I a0.nodes, I a0.data])), (6, .own 0 0), (10, .own 1 0), (11, .d (.ptr (encSideS v7).cells)), (13, .omap 2), (16, .osl 3 s.2.length), (54, .d (.list 4 (t.uses.map encUse))), (55, .d (I (t.uses.length : Int))), (56, .d (I (pre.length : Int)))]) (fun pre s => [.cells [.d (.list 4 (t.uses.map encUse)), .d (.list 5 (t.grants.map encGrant)), .d (.list 3 (t.asks.map encAsk))], .cells [.d (.lit (.slice none 0 0)), .d (.lit (.slice none 0 0)), .d (.lit (.slice none 0 0))], .map (ents .i64 (s.1.map fun y => (y.1, B y.2))), .arr 61 4 (s.2.map encUse)]) ?step2 ?done2 (v6, []) hv12
    case step2 =>
     rintro pre x11 l ⟨p8, p9⟩ hpre hlt h ih
     have hprex11 := hpre
     replace h : kBTake_L2 v7 (x11 :: l) p8 p9 = some v12 := h
     show VCL _ _ _ _ _ (envOf _) (_ :: _)
     obtain ⟨i10, hi⟩ : ∃ i : Int, i = (pre.length : Int) := ⟨_, rfl⟩
     have hix11 := hi
     rw [← hi]
     rw [kBTake_L2] at h
     refine vcl_unroll ?_
     refine xsr ?_
     refine xp ?_
     refine xq ?_
     refine vc_seq ?_
     refine vc_cond rfl (fun _ => ?_) (fun hf => absurd hf (by simp; omega))
     refine vc_skip ?_
     refine vc_seq ?_
     refine vc_block ?_
     refine xsr ?_
     refine ri rfl rfl rfl rfl rfl rfl rfl (by omega) (by rw [hix11]; exact idxp hprex11) ?_
     refine xp ?_
     refine xa ?_
     refine xw ?_
     refine xq ?_
     refine xsr ?_
     iterate 2 refine xp ?_
     refine xR ?_
     refine rmuT (fun v => B v) true (p8 : List (Int × Bool)) rfl rfl rfl rfl rfl rfl rfl rfl ?_
     refine xq ?_
     refine xsr ?_
     iterate 2 refine xp ?_
     refine xR ?_
     obtain ⟨v13, hv13, h⟩ := bindO h
     refine xc (kBFind_ok v7 x11.peer _ hv13) ?_
     iterate 3 refine xp ?_
     refine xa ?_
     refine xw ?_
     refine xp ?_
     refine xq ?_
     refine vc_seq ?_
     refine xk [0, 1, 2, 3, 4] [(5, .d (.ptr [I a0.nodes, I a0.data])), (6, .own 0 0), (10, .own 1 0), (11, .d (.ptr (encSideS v7).cells)), (13, .omap 2), (16, .osl 3 p9.length), (18, .own 4 0), (19, .d (.ptr (encNear v13.1).cells)), (54, .d (.list 4 (t.uses.map encUse))), (55, .d (I (t.uses.length : Int))), (56, .d (I i10))] (σ' := [.cells [.d (.list 4 (t.uses.map encUse)), .d (.list 5 (t.grants.map encGrant)), .d (.list 3 (t.asks.map encAsk))], .cells [.d (.lit (.slice none 0 0)), .d (.lit (.slice none 0 0)), .d (.lit (.slice none 0 0))], .map (ents .i64 ((mputT x11.peer true p8).map fun y => (y.1, B y.2))), .arr 61 4 (p9.map encUse), .cells [.d (I x11.cell.slot), .d (I x11.cell.offset), .d (I x11.peer), .d (I x11.stamp)]]) (.cons rfl (.cells (.cons (.h rfl rfl) (.cons (.h rfl rfl) (.cons (.h rfl rfl) .nil)))) (.cons rfl (.cells (.cons (.h rfl rfl) (.cons (.h rfl rfl) (.cons (.h rfl rfl) .nil)))) (.cons rfl (.map rfl) (.cons rfl (.arr (by first | rfl | (simp <;> rfl))) (.cons rfl (.cells (.cons (.h rfl rfl) (.cons (.h rfl rfl) (.cons (.h rfl rfl) (.cons (.h rfl rfl) .nil))))) .nil))))) (xh5 (xh2 ⟨.z (.own' rfl (.cons .d (.cons .d (.cons .d (.cons .d (.cons .d (.cons .d (.cons .d (.cons .d (.cons .d (.cons .d (.cons .d (.cons .d (.cons .d (.cons .d (.cons .d (.cons .d (.cons .d (.cons .d (.cons .d (.cons .d (.cons .d (.cons .d (.cons .d (.cons .d (.cons .d (.cons .d (.cons .d (.cons .d (.cons .d (.cons .d (.cons .d .nil)))))))))))))))))))))))))))))))) .refl, (xh3 trivial)⟩)) ?_
     refine xr ?_
     iterate 2 refine xp ?_
     obtain ⟨v14, hv14, h⟩ := bindO h
     refine xc (kBGranted_ok v7 v13.1 _ hv14) ?_
     refine xp ?_
     refine xq ?_
     refine xsr ?_
     iterate 2 refine xp ?_
     obtain ⟨v15, hv15, h⟩ := bindO h
     refine rcr rfl rfl rfl rfl (by exact (.cons .d (.cons (.fn' .nil (.cons (.own' rfl (.cons .d (.cons .d (.cons .d (.cons .d .nil))))) .nil)) .nil))) (f54_ok v14 (fun y0 => some (f55 y0 ⟨⟨x11.cell.slot, x11.cell.offset⟩, x11.peer, x11.stamp⟩)) (fun y0 r h => f55_ok y0 ⟨⟨x11.cell.slot, x11.cell.offset⟩, x11.peer, x11.stamp⟩ r (Option.some.inj h)) _ hv15) rfl ?_
     refine xp ?_
     refine xq ?_
     refine xsr ?_
     iterate 2 refine xp ?_
     refine xq ?_
     obtain ⟨v16, hv16, h⟩ := bindO h
     refine vc_midQ [(5, .d (.ptr [I a0.nodes, I a0.data])), (6, .own 0 0), (10, .own 1 0), (11, .d (.ptr (encSideS v7).cells)), (13, .omap 2), (16, .osl 3 v16.length), (54, .d (.list 4 (t.uses.map encUse))), (55, .d (I (t.uses.length : Int))), (56, .d (I i10))] [.cells [.d (.list 4 (t.uses.map encUse)), .d (.list 5 (t.grants.map encGrant)), .d (.list 3 (t.asks.map encAsk))], .cells [.d (.lit (.slice none 0 0)), .d (.lit (.slice none 0 0)), .d (.lit (.slice none 0 0))], .map (ents .i64 ((mputT x11.peer true p8).map fun y => (y.1, B y.2))), .arr 61 4 (v16.map encUse)] ?_ ?_
     ·replace h := hv16; clear hv16
      cases c17 : decide (v15 ≥ 0) with
      | true =>
       have h := cT c17 h
       refine vc_condT rfl ?_
       refine xsr ?_
       iterate 2 refine xp ?_
       obtain ⟨v18, hv18, h⟩ := bindO h
       refine ri rfl rfl rfl rfl rfl rfl rfl (elt0 hv18) (eltm _ hv18) ?_
       iterate 3 refine xp ?_
       refine xw ?_
       refine xq ?_
       refine xk [0, 1, 2, 3] [(5, .d (.ptr [I a0.nodes, I a0.data])), (6, .own 0 0), (10, .own 1 0), (11, .d (.ptr (encSideS v7).cells)), (13, .omap 2), (16, .osl 3 p9.length), (18, .d (.ptr [I x11.cell.slot, I x11.cell.offset, I x11.peer, I v18.stamp])), (54, .d (.list 4 (t.uses.map encUse))), (55, .d (I (t.uses.length : Int))), (56, .d (I i10))] (σ' := [.cells [.d (.list 4 (t.uses.map encUse)), .d (.list 5 (t.grants.map encGrant)), .d (.list 3 (t.asks.map encAsk))], .cells [.d (.lit (.slice none 0 0)), .d (.lit (.slice none 0 0)), .d (.lit (.slice none 0 0))], .map (ents .i64 ((mputT x11.peer true p8).map fun y => (y.1, B y.2))), .arr 61 4 (p9.map encUse)]) (.cons rfl (.cells (.cons (.h rfl rfl) (.cons (.h rfl rfl) (.cons (.h rfl rfl) .nil)))) (.cons rfl (.cells (.cons (.h rfl rfl) (.cons (.h rfl rfl) (.cons (.h rfl rfl) .nil)))) (.cons rfl (.map rfl) (.cons rfl (.arr (by first | rfl | (simp <;> rfl))) .nil)))) (xh5 (xh1 ⟨.z (.own' rfl (.cons .d (.cons .d (.cons .d (.cons .d .nil))))) .refl, (xh3 trivial)⟩)) ?_
       refine xr ?_
       iterate 2 refine xp ?_
       refine xb ?_
       obtain ⟨g19, h⟩ := gd h; replace g19 := dT g19
       refine rap rfl rfl rfl rfl rfl rfl rfl rfl .list rfl rfl rfl rfl (by simp) (by simp; omega) (by simp; omega) ?_
       refine xp ?_
       refine xq ?_
       cases h
       exact xm [0, 1, 2, 3] ((.cons rfl (.cells (.cons (.h rfl rfl) (.cons (.h rfl rfl) (.cons (.h rfl rfl) .nil)))) (.cons rfl (.cells (.cons (.h rfl rfl) (.cons (.h rfl rfl) (.cons (.h rfl rfl) .nil)))) (.cons rfl (.map rfl) (.cons rfl (.arr (by first | rfl | (simp <;> rfl))) .nil))))) (xh5 ⟨.h (oslE rfl (by first | rfl | (simp <;> rfl) | (simp only [List.length_take]; omega))) rfl, (xh3 trivial)⟩)
      | false =>
       have h := cF c17 h
       refine vc_condF rfl ?_
       refine vc_skip ?_
       cases h
       exact xm [0, 1, 2, 3] ((.cons rfl (.cells (.cons (.h rfl rfl) (.cons (.h rfl rfl) (.cons (.h rfl rfl) .nil)))) (.cons rfl (.cells (.cons (.h rfl rfl) (.cons (.h rfl rfl) (.cons (.h rfl rfl) .nil)))) (.cons rfl (.map rfl) (.cons rfl (.arr (by first | rfl | (simp <;> rfl))) .nil))))) (xh5 ⟨.h (oslE rfl (by first | rfl | (simp <;> rfl) | (simp only [List.length_take]; omega))) rfl, (xh3 trivial)⟩)
     ·refine xr ?_
      iterate 2 refine xp ?_
      refine xq ?_
      exact xv [0, 1, 2, 3] (ih (mputT x11.peer true p8, v16) h) (.cons rfl (.cells (.cons (.h rfl rfl) (.cons (.h rfl rfl) (.cons (.h rfl rfl) .nil)))) (.cons rfl (.cells (.cons (.h rfl rfl) (.cons (.h rfl rfl) (.cons (.h rfl rfl) .nil)))) (.cons rfl (.map rfl) (.cons rfl (.arr (by first | rfl | (simp <;> rfl))) .nil)))) (xh5 (xh3 ⟨.e rfl (cntI hi hlt hlen), trivial⟩))
    case done2 =>
     rintro ⟨p8, p9⟩ h
     replace h : kBTake_L2 v7 [] p8 p9 = some v12 := h
     rw [kBTake_L2] at h
     show VCL _ _ _ _ _ (envOf _) (_ :: _)
     refine vcl_unroll ?_
     refine xsr ?_
     refine xp ?_
     refine xq ?_
     refine vc_seq ?_
     refine vc_cond rfl (fun ht => absurd ht (by simp; try omega)) (fun _ => ?_)
     refine vc_exit ?_
     cases h
     exact xm [0, 1, 2, 3] (.cons rfl (.cells (.cons (.h rfl rfl) (.cons (.h rfl rfl) (.cons (.h rfl rfl) .nil)))) (.cons rfl (.cells (.cons (.h rfl rfl) (.cons (.h rfl rfl) (.cons (.h rfl rfl) .nil)))) (.cons rfl (.map rfl) (.cons rfl (.arr (by first | rfl | (simp <;> rfl))) .nil)))) (xh5 (xh1 trivial))
   ·have h := hLv12
    refine vc_seq ?_
    refine xk [0, 1, 2] [(5, .d (.ptr [I a0.nodes, I a0.data])), (6, .own 0 0), (10, .own 1 0), (11, .d (.ptr (encSideS v7).cells)), (13, .omap 2), (16, .d (.list 4 (v12.2.map encUse)))] (σ' := [.cells [.d (.list 4 (t.uses.map encUse)), .d (.list 5 (t.grants.map encGrant)), .d (.list 3 (t.asks.map encAsk))], .cells [.d (.lit (.slice none 0 0)), .d (.lit (.slice none 0 0)), .d (.lit (.slice none 0 0))], .map (ents .i64 (v12.1.map fun y => (y.1, B y.2)))]) (.cons rfl (.cells (.cons (.h rfl rfl) (.cons (.h rfl rfl) (.cons (.h rfl rfl) .nil)))) (.cons rfl (.cells (.cons (.h rfl rfl) (.cons (.h rfl rfl) (.cons (.h rfl rfl) .nil)))) (.cons rfl (.map rfl) .nil))) (xh5 ⟨.z (.osl rfl (by simp)) .refl, trivial⟩) ?_
    refine xr ?_
    iterate 2 refine xp ?_
    refine xw ?_
    refine xq ?_
    refine vc_seq ?_
    refine xsr ?_
    iterate 4 refine xp ?_
    refine xl ?_
    refine xp ?_
    refine xq ?_
    obtain ⟨v25, hv25, hLv25⟩ := bindO h
    refine vc_midQ [(6, .own 0 0), (10, .own 1 0)] [.cells [.d (.list 4 (v25.1.map encUse)), .d (.list 5 (v25.2.1.map encGrant)), .d (.list 3 (v25.2.2.map encAsk))], .cells [.d (.lit (.slice none 0 0)), .d (.lit (.slice none 0 0)), .d (.lit (.slice none 0 0))]] ?_ ?_
    ·refine vc_block ?_
     refine vc_loop ?_
     refine xK [0, 1, 2] [(5, .d (.ptr [I a0.nodes, I a0.data])), (6, .own 0 0), (10, .own 1 0), (11, .d (.ptr (encSideS v7).cells)), (13, .omap 2), (94, .d (.list 31 (v7.near.map encNear))), (95, .d (I (v7.near.length : Int))), (96, .d (I 0))] (σ' := [.cells [.d (.list 4 (v12.2.map encUse)), .d (.list 5 (t.grants.map encGrant)), .d (.list 3 (t.asks.map encAsk))], .cells [.d (.lit (.slice none 0 0)), .d (.lit (.slice none 0 0)), .d (.lit (.slice none 0 0))], .map (ents .i64 (v12.1.map fun y => (y.1, B y.2)))]) (.cons rfl (.cells (.cons (.h rfl rfl) (.cons (.h rfl rfl) (.cons (.h rfl rfl) .nil)))) (.cons rfl (.cells (.cons (.h rfl rfl) (.cons (.h rfl rfl) (.cons (.h rfl rfl) .nil)))) (.cons rfl (.map rfl) .nil))) (xh5 (xh3 trivial)) ?_
     refine vcl_lenS 11 rfl (.ptr 3 rfl .here) (fun hlen => ?_)
     replace hlen := len_map hlen
     refine vcl_rec v7.near (fun (pre l : List Near) (s : List Use × List Grant × List Ask) => kBTake_L3 a0 v7 v12 l s.1 s.2.1 s.2.2) (some v25) (fun pre s => envOf [(5, .d (.ptr [I a0.nodes, I a0.data])), (6, .own 0 0), (10, .own 1 0), (11, .d (.ptr (encSideS v7).cells)), (13, .omap 2), (94, .d (.list 31 (v7.near.map encNear))), (95, .d (I (v7.near.length : Int))), (96, .d (I (pre.length : Int)))]) (fun pre s => [.cells [.d (.list 4 (s.1.map encUse)), .d (.list 5 (s.2.1.map encGrant)), .d (.list 3 (s.2.2.map encAsk))], .cells [.d (.lit (.slice none 0 0)), .d (.lit (.slice none 0 0)), .d (.lit (.slice none 0 0))], .map (ents .i64 (v12.1.map fun y => (y.1, B y.2)))]) ?step3 ?done3 (v12.2, t.grants, t.asks) hv25
     case step3 =>
      rintro pre x24 l ⟨p20, p21, p22⟩ hpre hlt h ih
      have hprex24 := hpre
      replace h : kBTake_L3 a0 v7 v12 (x24 :: l) p20 p21 p22 = some v25 := h
      show VCL _ _ _ _ _ (envOf _) (_ :: _)
      obtain ⟨i23, hi⟩ : ∃ i : Int, i = (pre.length : Int) := ⟨_, rfl⟩
      have hix24 := hi
      rw [← hi]
      rw [kBTake_L3] at h
      refine vcl_unroll ?_
      refine xsr ?_
      refine xp ?_
      refine xq ?_
      refine vc_seq ?_
      refine vc_cond rfl (fun _ => ?_) (fun hf => absurd hf (by simp; omega))
      refine vc_skip ?_
      refine vc_seq ?_
      refine vc_block ?_
      refine xsr ?_
      refine ri rfl rfl rfl rfl rfl rfl rfl (by omega) (by rw [hix24]; exact idxp hprex24) ?_
      refine xp ?_
      refine xa ?_
      refine xw ?_
      refine xq ?_
      refine vc_seq ?_
      refine vc_seq ?_
      refine xk [0, 1, 2] [(5, .d (.ptr [I a0.nodes, I a0.data])), (6, .own 0 0), (10, .own 1 0), (11, .d (.ptr (encSideS v7).cells)), (13, .omap 2), (24, .d (.ptr (encNear x24).cells)), (94, .d (.list 31 (v7.near.map encNear))), (95, .d (I (v7.near.length : Int))), (96, .d (I i23))] (σ' := [.cells [.d (.list 4 (p20.map encUse)), .d (.list 5 (p21.map encGrant)), .d (.list 3 (p22.map encAsk))], .cells [.d (.lit (.slice none 0 0)), .d (.lit (.slice none 0 0)), .d (.lit (.slice none 0 0))], .map (ents .i64 (v12.1.map fun y => (y.1, B y.2)))]) (.cons rfl (.cells (.cons (.h rfl rfl) (.cons (.h rfl rfl) (.cons (.h rfl rfl) .nil)))) (.cons rfl (.cells (.cons (.h rfl rfl) (.cons (.h rfl rfl) (.cons (.h rfl rfl) .nil)))) (.cons rfl (.map rfl) .nil))) (xh5 ⟨.z (.own' rfl (.cons .d (.cons .d (.cons .d (.cons .d (.cons .d (.cons .d (.cons .d (.cons .d (.cons .d (.cons .d (.cons .d (.cons .d (.cons .d (.cons .d (.cons .d (.cons .d (.cons .d (.cons .d (.cons .d (.cons .d (.cons .d (.cons .d (.cons .d (.cons .d (.cons .d (.cons .d (.cons .d (.cons .d (.cons .d (.cons .d (.cons .d .nil)))))))))))))))))))))))))))))))) .refl, (xh3 trivial)⟩) ?_
      refine xr ?_
      iterate 4 refine xp ?_
      refine rmlT (fun v => B v) false (v12.1 : List (Int × Bool)) rfl rfl rfl rfl rfl rfl (by kernel_rfl) rfl rfl rfl ?_
      refine xp ?_
      refine xq ?_
      cases c26 : (mgetT x24.src false (v12.1 : List (Int × Bool))) with
      | true =>
       have h := cT c26 h
       refine vc_condF rfl ?_
       refine vc_skip ?_
       refine xsr ?_
       iterate 2 refine xp ?_
       obtain ⟨v27, hv27, h⟩ := bindO h
       refine xc (kBGranted_ok v7 x24 _ hv27) ?_
       refine xl ?_
       refine xp ?_
       refine xq ?_
       obtain ⟨v33, hv33, hLv33⟩ := bindO h
       refine vc_midQ [(5, .d (.ptr [I a0.nodes, I a0.data])), (6, .own 0 0), (10, .own 1 0), (11, .d (.ptr (encSideS v7).cells)), (13, .omap 2), (94, .d (.list 31 (v7.near.map encNear))), (95, .d (I (v7.near.length : Int))), (96, .d (I i23))] [.cells [.d (.list 4 (v33.1.map encUse)), .d (.list 5 (v33.2.1.map encGrant)), .d (.list 3 (v33.2.2.map encAsk))], .cells [.d (.lit (.slice none 0 0)), .d (.lit (.slice none 0 0)), .d (.lit (.slice none 0 0))], .map (ents .i64 (v12.1.map fun y => (y.1, B y.2)))] ?_ ?_
       ·refine vc_block ?_
        refine vc_loop ?_
        refine xK [0, 1, 2] [(5, .d (.ptr [I a0.nodes, I a0.data])), (6, .own 0 0), (10, .own 1 0), (11, .d (.ptr (encSideS v7).cells)), (13, .omap 2), (24, .d (.ptr (encNear x24).cells)), (94, .d (.list 31 (v7.near.map encNear))), (95, .d (I (v7.near.length : Int))), (96, .d (I i23)), (108, .d (.list 5 (v27.map encGrant))), (109, .d (I (v27.length : Int))), (110, .d (I 0))] (σ' := [.cells [.d (.list 4 (p20.map encUse)), .d (.list 5 (p21.map encGrant)), .d (.list 3 (p22.map encAsk))], .cells [.d (.lit (.slice none 0 0)), .d (.lit (.slice none 0 0)), .d (.lit (.slice none 0 0))], .map (ents .i64 (v12.1.map fun y => (y.1, B y.2)))]) (.cons rfl (.cells (.cons (.h rfl rfl) (.cons (.h rfl rfl) (.cons (.h rfl rfl) .nil)))) (.cons rfl (.cells (.cons (.h rfl rfl) (.cons (.h rfl rfl) (.cons (.h rfl rfl) .nil)))) (.cons rfl (.map rfl) .nil))) (xh5 (xh5 (xh2 trivial))) ?_
        refine vcl_len 108 rfl (fun hlen => ?_)
        replace hlen := len_map hlen
        refine vcl_rec v27 (fun (pre l : List Grant) (s : List Use × List Grant × List Ask) => kBTake_L4 a0 x24 l s.1 s.2.1 s.2.2) (some v33) (fun pre s => envOf [(5, .d (.ptr [I a0.nodes, I a0.data])), (6, .own 0 0), (10, .own 1 0), (11, .d (.ptr (encSideS v7).cells)), (13, .omap 2), (24, .d (.ptr (encNear x24).cells)), (94, .d (.list 31 (v7.near.map encNear))), (95, .d (I (v7.near.length : Int))), (96, .d (I i23)), (108, .d (.list 5 (v27.map encGrant))), (109, .d (I (v27.length : Int))), (110, .d (I (pre.length : Int)))]) (fun pre s => [.cells [.d (.list 4 (s.1.map encUse)), .d (.list 5 (s.2.1.map encGrant)), .d (.list 3 (s.2.2.map encAsk))], .cells [.d (.lit (.slice none 0 0)), .d (.lit (.slice none 0 0)), .d (.lit (.slice none 0 0))], .map (ents .i64 (v12.1.map fun y => (y.1, B y.2)))]) ?step4 ?done4 (p20, p21, p22) hv33
        case step4 =>
         rintro pre x32 l ⟨p28, p29, p30⟩ hpre hlt h ih
         have hprex32 := hpre
         replace h : kBTake_L4 a0 x24 (x32 :: l) p28 p29 p30 = some v33 := h
         show VCL _ _ _ _ _ (envOf _) (_ :: _)
         obtain ⟨i31, hi⟩ : ∃ i : Int, i = (pre.length : Int) := ⟨_, rfl⟩
         have hix32 := hi
         rw [← hi]
         rw [kBTake_L4] at h
         refine vcl_unroll ?_
         refine xsr ?_
         refine xp ?_
         refine xq ?_
         refine vc_seq ?_
         refine vc_cond rfl (fun _ => ?_) (fun hf => absurd hf (by simp; omega))
         refine vc_skip ?_
         refine vc_seq ?_
         refine vc_block ?_
         refine xsr ?_
         refine ri rfl rfl rfl rfl rfl rfl rfl (by omega) (by rw [hix32]; exact idxp hprex32) ?_
         refine xp ?_
         refine xa ?_
         refine xw ?_
         refine xq ?_
         refine vc_seq ?_
         refine xk [0, 1, 2] [(5, .d (.ptr [I a0.nodes, I a0.data])), (6, .own 0 0), (10, .own 1 0), (11, .d (.ptr (encSideS v7).cells)), (13, .omap 2), (24, .d (.ptr (encNear x24).cells)), (26, .d (.ptr (encGrant x32).cells)), (94, .d (.list 31 (v7.near.map encNear))), (95, .d (I (v7.near.length : Int))), (96, .d (I i23)), (108, .d (.list 5 (v27.map encGrant))), (109, .d (I (v27.length : Int))), (110, .d (I i31))] (σ' := [.cells [.d (.list 4 (p28.map encUse)), .d (.list 5 (p29.map encGrant)), .d (.list 3 (p30.map encAsk))], .cells [.d (.lit (.slice none 0 0)), .d (.lit (.slice none 0 0)), .d (.lit (.slice none 0 0))], .map (ents .i64 (v12.1.map fun y => (y.1, B y.2)))]) (.cons rfl (.cells (.cons (.h rfl rfl) (.cons (.h rfl rfl) (.cons (.h rfl rfl) .nil)))) (.cons rfl (.cells (.cons (.h rfl rfl) (.cons (.h rfl rfl) (.cons (.h rfl rfl) .nil)))) (.cons rfl (.map rfl) .nil))) (xh5 (xh1 ⟨.z (.own' rfl (.cons .d (.cons .d (.cons .d (.cons .d (.cons .d .nil)))))) .refl, (xh5 (xh1 trivial))⟩)) ?_
         refine xr ?_
         refine xR ?_
         iterate 9 refine xp ?_
         obtain ⟨v34, hv34, h⟩ := bindO h
         refine xc (kCellsAddUse_ok ⟨p28, p29, p30⟩ a0 ⟨⟨x32.cell.slot, x32.cell.offset⟩, x24.src, x32.stamp⟩ _ hv34) ?_
         iterate 3 refine xp ?_
         refine xa ?_
         refine xw ?_
         refine xp ?_
         refine xq ?_
         refine vc_seq ?_
         refine xk [0, 1, 2] [(5, .d (.ptr [I a0.nodes, I a0.data])), (6, .own 0 0), (10, .own 1 0), (11, .d (.ptr (encSideS v7).cells)), (13, .omap 2), (24, .d (.ptr (encNear x24).cells)), (27, .d (.ptr [.list 4 (v34.1.uses.map encUse), .list 5 (v34.1.grants.map encGrant), .list 3 (v34.1.asks.map encAsk)])), (28, .d (I v34.2)), (94, .d (.list 31 (v7.near.map encNear))), (95, .d (I (v7.near.length : Int))), (96, .d (I i23)), (108, .d (.list 5 (v27.map encGrant))), (109, .d (I (v27.length : Int))), (110, .d (I i31))] (σ' := [.cells [.d (.list 4 (p28.map encUse)), .d (.list 5 (p29.map encGrant)), .d (.list 3 (p30.map encAsk))], .cells [.d (.lit (.slice none 0 0)), .d (.lit (.slice none 0 0)), .d (.lit (.slice none 0 0))], .map (ents .i64 (v12.1.map fun y => (y.1, B y.2)))]) (.cons rfl (.cells (.cons (.h rfl rfl) (.cons (.h rfl rfl) (.cons (.h rfl rfl) .nil)))) (.cons rfl (.cells (.cons (.h rfl rfl) (.cons (.h rfl rfl) (.cons (.h rfl rfl) .nil)))) (.cons rfl (.map rfl) .nil))) (xh5 (xh1 ⟨.z (.own' rfl (.cons .d (.cons .d (.cons .d .nil)))) .refl, (xh5 (xh2 trivial))⟩)) ?_
         refine xr ?_
         iterate 2 refine xp ?_
         refine xq ?_
         refine vc_midQ [(5, .d (.ptr [I a0.nodes, I a0.data])), (6, .own 0 0), (10, .own 1 0), (11, .d (.ptr (encSideS v7).cells)), (13, .omap 2), (24, .d (.ptr (encNear x24).cells)), (94, .d (.list 31 (v7.near.map encNear))), (95, .d (I (v7.near.length : Int))), (96, .d (I i23)), (108, .d (.list 5 (v27.map encGrant))), (109, .d (I (v27.length : Int))), (110, .d (I i31))] [.cells [.d (.list 4 ((cond (v34.2 == 0) (v34.1.uses) (p28)).map encUse)), .d (.list 5 ((cond (v34.2 == 0) (v34.1.grants) (p29)).map encGrant)), .d (.list 3 ((cond (v34.2 == 0) (v34.1.asks) (p30)).map encAsk))], .cells [.d (.lit (.slice none 0 0)), .d (.lit (.slice none 0 0)), .d (.lit (.slice none 0 0))], .map (ents .i64 (v12.1.map fun y => (y.1, B y.2)))] ?_ ?_
         ·cases c35 : (v34.2 == 0) with
          | true =>
           refine vc_condT rfl ?_
           refine xr ?_
           refine xp ?_
           refine xw ?_
           refine xq ?_
           exact xm [0, 1, 2] ((.cons rfl (.cells (.cons (.h rfl rfl) (.cons (.h rfl rfl) (.cons (.h rfl rfl) .nil)))) (.cons rfl (.cells (.cons (.h rfl rfl) (.cons (.h rfl rfl) (.cons (.h rfl rfl) .nil)))) (.cons rfl (.map rfl) .nil)))) (xh5 (xh5 (xh2 trivial)))
          | false =>
           refine vc_condF rfl ?_
           refine vc_skip ?_
           exact xm [0, 1, 2] ((.cons rfl (.cells (.cons (.h rfl rfl) (.cons (.h rfl rfl) (.cons (.h rfl rfl) .nil)))) (.cons rfl (.cells (.cons (.h rfl rfl) (.cons (.h rfl rfl) (.cons (.h rfl rfl) .nil)))) (.cons rfl (.map rfl) .nil)))) (xh5 (xh5 (xh2 trivial)))
         ·refine xr ?_
          iterate 2 refine xp ?_
          refine xq ?_
          exact xv [0, 1, 2] (ih ((cond (v34.2 == 0) (v34.1.uses) (p28)), (cond (v34.2 == 0) (v34.1.grants) (p29)), (cond (v34.2 == 0) (v34.1.asks) (p30))) h) (.cons rfl (.cells (.cons (.h rfl rfl) (.cons (.h rfl rfl) (.cons (.h rfl rfl) .nil)))) (.cons rfl (.cells (.cons (.h rfl rfl) (.cons (.h rfl rfl) (.cons (.h rfl rfl) .nil)))) (.cons rfl (.map rfl) .nil))) (xh5 (xh5 (xh1 ⟨.e rfl (cntI hi hlt hlen), trivial⟩)))
        case done4 =>
         rintro ⟨p28, p29, p30⟩ h
         replace h : kBTake_L4 a0 x24 [] p28 p29 p30 = some v33 := h
         rw [kBTake_L4] at h
         show VCL _ _ _ _ _ (envOf _) (_ :: _)
         refine vcl_unroll ?_
         refine xsr ?_
         refine xp ?_
         refine xq ?_
         refine vc_seq ?_
         refine vc_cond rfl (fun ht => absurd ht (by simp; try omega)) (fun _ => ?_)
         refine vc_exit ?_
         cases h
         exact xm [0, 1, 2] (.cons rfl (.cells (.cons (.h rfl rfl) (.cons (.h rfl rfl) (.cons (.h rfl rfl) .nil)))) (.cons rfl (.cells (.cons (.h rfl rfl) (.cons (.h rfl rfl) (.cons (.h rfl rfl) .nil)))) (.cons rfl (.map rfl) .nil))) (xh5 (xh3 trivial))
       ·have h := hLv33
        refine xr ?_
        iterate 2 refine xp ?_
        refine xq ?_
        exact xv [0, 1, 2] (ih (v33.1, v33.2.1, v33.2.2) h) (.cons rfl (.cells (.cons (.h rfl rfl) (.cons (.h rfl rfl) (.cons (.h rfl rfl) .nil)))) (.cons rfl (.cells (.cons (.h rfl rfl) (.cons (.h rfl rfl) (.cons (.h rfl rfl) .nil)))) (.cons rfl (.map rfl) .nil))) (xh5 (xh2 ⟨.e rfl (cntI hi hlt hlen), trivial⟩))
      | false =>
       have h := cF c26 h
       refine vc_condT rfl ?_
       refine vc_exit ?_
       refine xr ?_
       iterate 2 refine xp ?_
       refine xq ?_
       exact xv [0, 1, 2] (ih (p20, p21, p22) h) (.cons rfl (.cells (.cons (.h rfl rfl) (.cons (.h rfl rfl) (.cons (.h rfl rfl) .nil)))) (.cons rfl (.cells (.cons (.h rfl rfl) (.cons (.h rfl rfl) (.cons (.h rfl rfl) .nil)))) (.cons rfl (.map rfl) .nil))) (xh5 (xh2 ⟨.e rfl (cntI hi hlt hlen), trivial⟩))
     case done3 =>
      rintro ⟨p20, p21, p22⟩ h
      replace h : kBTake_L3 a0 v7 v12 [] p20 p21 p22 = some v25 := h
      rw [kBTake_L3] at h
      show VCL _ _ _ _ _ (envOf _) (_ :: _)
      refine vcl_unroll ?_
      refine xsr ?_
      refine xp ?_
      refine xq ?_
      refine vc_seq ?_
      refine vc_cond rfl (fun ht => absurd ht (by simp; try omega)) (fun _ => ?_)
      refine vc_exit ?_
      cases h
      exact xm [0, 1] (.cons rfl (.cells (.cons (.h rfl rfl) (.cons (.h rfl rfl) (.cons (.h rfl rfl) .nil)))) (.cons rfl (.cells (.cons (.h rfl rfl) (.cons (.h rfl rfl) (.cons (.h rfl rfl) .nil)))) .nil)) (xh2 trivial)
    ·have h := hLv25
     refine xsr ?_
     refine xR ?_
     refine xw ?_
     refine xq ?_
     replace h := Option.some.inj h
     refine vc_ret ⟨.inr rfl, [encTable ⟨v25.1, v25.2.1, v25.2.2⟩], (.cons rfl ⟨_, .d, .refl⟩ .nil), ?_⟩
     first | (rw [← h]; done) | (rw [← h]; rfl) | (rw [← h]; simp)
 | false =>
  have h := cF c2 h
  refine vc_condT rfl ?_
  refine xsr ?_
  refine xR ?_
  refine xw ?_
  refine xq ?_
  replace h := Option.some.inj h
  refine vc_ret ⟨.inr rfl, [encTable t], (.cons rfl ⟨_, .d, .refl⟩ .nil), ?_⟩
  first | (rw [← h]; done) | (rw [← h]; rfl) | (rw [← h]; simp)
end Go.VM.Tryz
namespace Go.VM.Tryz
open Go.Proofs
structure TPair where
 listener : Table
 sender : Table
 byListener : (List Near)
 bySender : (List Near)
def encTPair (x : TPair) : D := .agg [.list 4 (x.listener.uses.map encUse), .list 5 (x.listener.grants.map encGrant), .list 3 (x.listener.asks.map encAsk), .list 4 (x.sender.uses.map encUse), .list 5 (x.sender.grants.map encGrant), .list 3 (x.sender.asks.map encAsk), .list 31 (x.byListener.map encNear), .list 31 (x.bySender.map encNear)]
def kLhead : Option (Bool) := lt (told 0 ⟨[], [], []⟩ 0) fun v1 => Option.bind (kBAsk ⟨2, 4⟩ ⟨[], [], []⟩ 1 v1 0 2 0) fun v2 => lt (told 1 v2 1) fun v3 => Option.bind (kBGrant ⟨2, 4⟩ ⟨[], [], []⟩ 0 v3 1) fun v4 => lt (told 0 v4 2) fun v5 => Option.bind (kBTake ⟨2, 4⟩ v2 1 v5 2) fun v6 => lt (told 1 v6 3) fun v7 => Option.bind (kBGrant ⟨2, 4⟩ v4 0 v7 3) fun v8 => Option.bind (Option.bind (r12Same v2 ⟨[], [], ([⟨⟨1, 4⟩, 0⟩, ⟨⟨2, 4⟩, 0⟩] : List Ask)⟩) fun v10 => cond v10 (Option.bind (r12Same v4 ⟨[], ([⟨⟨1, 4⟩, 1, 1, 9⟩, ⟨⟨2, 4⟩, 1, 1, 9⟩] : List Grant), []⟩) fun v12 => some v12) (some false)) fun v9 => Option.bind (cond v9 (Option.bind (r12Same v6 ⟨([⟨⟨1, 4⟩, 0, 1⟩, ⟨⟨2, 4⟩, 0, 1⟩] : List Use), [], []⟩) fun v15 => cond v15 (cond ((v8.grants.length : Int) == 2) (Option.bind (elt v8.grants 0) fun v18 => cond (v18.til == 11) (Option.bind (elt v8.grants 0) fun v20 => some (v20.stamp == 1)) (some false)) (some false)) (some false)) (some false)) fun v13 => lt (told 0 v4 9) fun v21 => Option.bind (kBTake ⟨2, 4⟩ v6 1 v21 10) fun v22 => Option.bind (cond v13 (cond ((v22.uses.length : Int) == 0) (Option.bind (kBAsk ⟨2, 4⟩ v2 1 [] 0 2 0) fun v26 => some ((v26.asks.length : Int) == 0)) (some false)) (some false)) fun v23 => some v23
theorem kLhead_ok (r : Bool) (h : kLhead = some r) : PCalls Tryz.prog 10 [] (B r) := by
 unfold kLhead at h
 refine xe 104 Tryz.func10 ?_
 refine xsr ?_
 refine xp ?_
 refine xq ?_
 refine xsr ?_
 refine xp ?_
 refine xa ?_
 refine xw ?_
 refine xq ?_
 refine vc_seq ?_
 refine xk [] [(1, .d (.ptr [I 2, I 4]))] .nil ⟨.z (.own' rfl (.cons .d (.cons .d .nil))) .refl, trivial⟩ ?_
 refine xd ?_
 iterate 3 refine xp ?_
 obtain ⟨v1, hv1, h⟩ := bindT h
 refine xc ((told_ok 0 ⟨[], [], []⟩ 0 _ hv1).args (.cons .refl (.cons (.agg' (.cons .nil (.cons .nil (.cons .nil .nil)))) (.cons .refl .nil)))) ?_
 obtain ⟨v2, hv2, h⟩ := bindO h
 refine xc ((kBAsk_ok ⟨2, 4⟩ ⟨[], [], []⟩ 1 v1 0 2 0 _ hv2).args (.cons .refl (.cons (.agg' (.cons .nil (.cons .nil (.cons .nil .nil)))) (.cons .refl (.cons .refl (.cons .refl (.cons .refl (.cons .refl .nil)))))))) ?_
 refine xa ?_
 refine xw ?_
 refine xq ?_
 refine vc_seq ?_
 refine xk [] [(1, .d (.ptr [I 2, I 4])), (2, .d (.ptr [.list 4 (v2.uses.map encUse), .list 5 (v2.grants.map encGrant), .list 3 (v2.asks.map encAsk)]))] .nil (xh1 ⟨.z (.own' rfl (.cons .d (.cons .d (.cons .d .nil)))) .refl, trivial⟩) ?_
 refine xr ?_
 refine xp ?_
 refine xa ?_
 refine xw ?_
 refine xq ?_
 refine vc_seq ?_
 refine xk [] [(1, .d (.ptr [I 2, I 4])), (2, .d (.ptr [.list 4 (v2.uses.map encUse), .list 5 (v2.grants.map encGrant), .list 3 (v2.asks.map encAsk)])), (3, .d (.ptr [I 1, I 4]))] .nil (xh2 ⟨.z (.own' rfl (.cons .d (.cons .d .nil))) .refl, trivial⟩) ?_
 refine xr ?_
 refine xp ?_
 refine xa ?_
 refine xw ?_
 refine xq ?_
 refine vc_seq ?_
 refine xk [] [(1, .d (.ptr [I 2, I 4])), (2, .d (.ptr [.list 4 (v2.uses.map encUse), .list 5 (v2.grants.map encGrant), .list 3 (v2.asks.map encAsk)])), (3, .d (.ptr [I 1, I 4])), (4, .d (.ptr [I 2, I 4]))] .nil (xh3 ⟨.z (.own' rfl (.cons .d (.cons .d .nil))) .refl, trivial⟩) ?_
 refine xd ?_
 iterate 3 refine xp ?_
 obtain ⟨v3, hv3, h⟩ := bindT h
 refine xc (told_ok 1 v2 1 _ hv3) ?_
 obtain ⟨v4, hv4, h⟩ := bindO h
 refine xc ((kBGrant_ok ⟨2, 4⟩ ⟨[], [], []⟩ 0 v3 1 _ hv4).args (.cons .refl (.cons (.agg' (.cons .nil (.cons .nil (.cons .nil .nil)))) (.cons .refl (.cons .refl (.cons .refl .nil)))))) ?_
 refine xa ?_
 refine xw ?_
 refine xq ?_
 refine vc_seq ?_
 refine xk [] [(1, .d (.ptr [I 2, I 4])), (2, .d (.ptr [.list 4 (v2.uses.map encUse), .list 5 (v2.grants.map encGrant), .list 3 (v2.asks.map encAsk)])), (3, .d (.ptr [I 1, I 4])), (4, .d (.ptr [I 2, I 4])), (5, .d (.ptr [.list 4 (v4.uses.map encUse), .list 5 (v4.grants.map encGrant), .list 3 (v4.asks.map encAsk)]))] .nil (xh3 (xh1 ⟨.z (.own' rfl (.cons .d (.cons .d (.cons .d .nil)))) .refl, trivial⟩)) ?_
 refine xd ?_
 iterate 3 refine xp ?_
 obtain ⟨v5, hv5, h⟩ := bindT h
 refine xc (told_ok 0 v4 2 _ hv5) ?_
 obtain ⟨v6, hv6, h⟩ := bindO h
 refine xc (kBTake_ok ⟨2, 4⟩ v2 1 v5 2 _ hv6) ?_
 refine xa ?_
 refine xw ?_
 refine xq ?_
 refine vc_seq ?_
 refine xk [] [(1, .d (.ptr [I 2, I 4])), (2, .d (.ptr [.list 4 (v2.uses.map encUse), .list 5 (v2.grants.map encGrant), .list 3 (v2.asks.map encAsk)])), (3, .d (.ptr [I 1, I 4])), (4, .d (.ptr [I 2, I 4])), (5, .d (.ptr [.list 4 (v4.uses.map encUse), .list 5 (v4.grants.map encGrant), .list 3 (v4.asks.map encAsk)])), (6, .d (.ptr [.list 4 (v6.uses.map encUse), .list 5 (v6.grants.map encGrant), .list 3 (v6.asks.map encAsk)]))] .nil (xh5 ⟨.z (.own' rfl (.cons .d (.cons .d (.cons .d .nil)))) .refl, trivial⟩) ?_
 refine xd ?_
 iterate 3 refine xp ?_
 obtain ⟨v7, hv7, h⟩ := bindT h
 refine xc (told_ok 1 v6 3 _ hv7) ?_
 obtain ⟨v8, hv8, h⟩ := bindO h
 refine xc (kBGrant_ok ⟨2, 4⟩ v4 0 v7 3 _ hv8) ?_
 refine xa ?_
 refine xw ?_
 refine xq ?_
 refine vc_seq ?_
 refine xk [] [(1, .d (.ptr [I 2, I 4])), (2, .d (.ptr [.list 4 (v2.uses.map encUse), .list 5 (v2.grants.map encGrant), .list 3 (v2.asks.map encAsk)])), (3, .d (.ptr [I 1, I 4])), (4, .d (.ptr [I 2, I 4])), (5, .d (.ptr [.list 4 (v4.uses.map encUse), .list 5 (v4.grants.map encGrant), .list 3 (v4.asks.map encAsk)])), (6, .d (.ptr [.list 4 (v6.uses.map encUse), .list 5 (v6.grants.map encGrant), .list 3 (v6.asks.map encAsk)])), (7, .d (.ptr [.list 4 (v8.uses.map encUse), .list 5 (v8.grants.map encGrant), .list 3 (v8.asks.map encAsk)]))] .nil (xh5 (xh1 ⟨.z (.own' rfl (.cons .d (.cons .d (.cons .d .nil)))) .refl, trivial⟩)) ?_
 obtain ⟨v9, hv9, h⟩ := bindO h
 refine vc_midQ [(1, .d (.ptr [I 2, I 4])), (2, .d (.ptr [.list 4 (v2.uses.map encUse), .list 5 (v2.grants.map encGrant), .list 3 (v2.asks.map encAsk)])), (3, .d (.ptr [I 1, I 4])), (4, .d (.ptr [I 2, I 4])), (5, .d (.ptr [.list 4 (v4.uses.map encUse), .list 5 (v4.grants.map encGrant), .list 3 (v4.asks.map encAsk)])), (6, .d (.ptr [.list 4 (v6.uses.map encUse), .list 5 (v6.grants.map encGrant), .list 3 (v6.asks.map encAsk)])), (7, .d (.ptr [.list 4 (v8.uses.map encUse), .list 5 (v8.grants.map encGrant), .list 3 (v8.asks.map encAsk)])), (8, .d (B v9))] [] ?_ ?_
 ·replace h := hv9; clear hv9
  refine xr ?_
  iterate 5 refine xp ?_
  refine xb ?_
  refine xp ?_
  obtain ⟨v10, hv10, h⟩ := bindO h
  refine xc ((r12Same_ok v2 ⟨[], [], ([⟨⟨1, 4⟩, 0⟩, ⟨⟨2, 4⟩, 0⟩] : List Ask)⟩ _ hv10).args (.cons .refl (.cons (.agg' (.cons .nil (.cons .nil (.cons .refl .nil)))) .nil))) ?_
  refine xp ?_
  cases c11 : v10 with
  | true =>
   have h := cT c11 h
   iterate 5 refine xp ?_
   refine xb ?_
   refine xp ?_
   obtain ⟨v12, hv12, h⟩ := bindO h
   refine xc ((r12Same_ok v4 ⟨[], ([⟨⟨1, 4⟩, 1, 1, 9⟩, ⟨⟨2, 4⟩, 1, 1, 9⟩] : List Grant), []⟩ _ hv12).args (.cons .refl (.cons (.agg' (.cons .nil (.cons .refl (.cons .nil .nil)))) .nil))) ?_
   iterate 2 refine xp ?_
   cases h
   refine xq ?_
   exact xm [] .nil (xh5 (xh3 trivial))
  | false =>
   have h := cF c11 h
   iterate 8 refine xs ?_
   iterate 2 refine xp ?_
   cases h
   refine xq ?_
   exact xm [] .nil (xh5 (xh3 trivial))
 ·refine vc_seq ?_
  obtain ⟨v13, hv13, h⟩ := bindO h
  refine vc_midQ [(1, .d (.ptr [I 2, I 4])), (2, .d (.ptr [.list 4 (v2.uses.map encUse), .list 5 (v2.grants.map encGrant), .list 3 (v2.asks.map encAsk)])), (5, .d (.ptr [.list 4 (v4.uses.map encUse), .list 5 (v4.grants.map encGrant), .list 3 (v4.asks.map encAsk)])), (6, .d (.ptr [.list 4 (v6.uses.map encUse), .list 5 (v6.grants.map encGrant), .list 3 (v6.asks.map encAsk)])), (8, .d (B v13))] [] ?_ ?_
  ·replace h := hv13; clear hv13
   refine xr ?_
   iterate 2 refine xp ?_
   cases c14 : v9 with
   | true =>
    have h := cT c14 h
    iterate 5 refine xp ?_
    refine xb ?_
    refine xp ?_
    obtain ⟨v15, hv15, h⟩ := bindO h
    refine xc ((r12Same_ok v6 ⟨([⟨⟨1, 4⟩, 0, 1⟩, ⟨⟨2, 4⟩, 0, 1⟩] : List Use), [], []⟩ _ hv15).args (.cons .refl (.cons (.agg' (.cons .refl (.cons .nil (.cons .nil .nil)))) .nil))) ?_
    iterate 2 refine xp ?_
    cases c16 : v15 with
    | true =>
     have h := cT c16 h
     iterate 2 refine xp ?_
     refine xl ?_
     iterate 3 refine xp ?_
     cases c17 : ((v8.grants.length : Int) == 2) with
     | true =>
      have h := cT c17 h
      iterate 2 refine xp ?_
      obtain ⟨v18, hv18, h⟩ := bindO h
      refine ri rfl rfl rfl rfl rfl rfl rfl (elt0 hv18) (eltm _ hv18) ?_
      iterate 5 refine xp ?_
      cases c19 : (v18.til == 11) with
      | true =>
       have h := cT c19 h
       iterate 2 refine xp ?_
       obtain ⟨v20, hv20, h⟩ := bindO h
       refine ri rfl rfl rfl rfl rfl rfl rfl (elt0 hv20) (eltm _ hv20) ?_
       iterate 5 refine xp ?_
       cases h
       refine xq ?_
       exact xm [] .nil (xh5 trivial)
      | false =>
       have h := cF c19 h
       iterate 6 refine xs ?_
       iterate 2 refine xp ?_
       cases h
       refine xq ?_
       exact xm [] .nil (xh5 trivial)
     | false =>
      have h := cF c17 h
      iterate 6 refine xs ?_
      iterate 2 refine xp ?_
      iterate 6 refine xs ?_
      iterate 2 refine xp ?_
      cases h
      refine xq ?_
      exact xm [] .nil (xh5 trivial)
    | false =>
     have h := cF c16 h
     iterate 4 refine xs ?_
     iterate 2 refine xp ?_
     iterate 6 refine xs ?_
     iterate 2 refine xp ?_
     iterate 6 refine xs ?_
     iterate 2 refine xp ?_
     cases h
     refine xq ?_
     exact xm [] .nil (xh5 trivial)
   | false =>
    have h := cF c14 h
    iterate 8 refine xs ?_
    iterate 2 refine xp ?_
    iterate 4 refine xs ?_
    iterate 2 refine xp ?_
    iterate 6 refine xs ?_
    iterate 2 refine xp ?_
    iterate 6 refine xs ?_
    iterate 2 refine xp ?_
    cases h
    refine xq ?_
    exact xm [] .nil (xh5 trivial)
  ·refine xsd ?_
   iterate 3 refine xp ?_
   obtain ⟨v21, hv21, h⟩ := bindT h
   refine xc (told_ok 0 v4 9 _ hv21) ?_
   obtain ⟨v22, hv22, h⟩ := bindO h
   refine xc (kBTake_ok ⟨2, 4⟩ v6 1 v21 10 _ hv22) ?_
   refine xa ?_
   refine xw ?_
   refine xq ?_
   refine vc_seq ?_
   refine xk [] [(1, .d (.ptr [I 2, I 4])), (2, .d (.ptr [.list 4 (v2.uses.map encUse), .list 5 (v2.grants.map encGrant), .list 3 (v2.asks.map encAsk)])), (8, .d (B v13)), (9, .d (.ptr [.list 4 (v22.uses.map encUse), .list 5 (v22.grants.map encGrant), .list 3 (v22.asks.map encAsk)]))] .nil (xh3 ⟨.z (.own' rfl (.cons .d (.cons .d (.cons .d .nil)))) .refl, trivial⟩) ?_
   obtain ⟨v23, hv23, h⟩ := bindO h
   refine vc_midQ [(0, .d (B v23))] [] ?_ ?_
   ·replace h := hv23; clear hv23
    refine xr ?_
    iterate 2 refine xp ?_
    cases c24 : v13 with
    | true =>
     have h := cT c24 h
     iterate 2 refine xp ?_
     refine xl ?_
     iterate 3 refine xp ?_
     cases c25 : ((v22.uses.length : Int) == 0) with
     | true =>
      have h := cT c25 h
      iterate 2 refine xp ?_
      obtain ⟨v26, hv26, h⟩ := bindO h
      refine xc ((kBAsk_ok ⟨2, 4⟩ v2 1 [] 0 2 0 _ hv26).args (.cons .refl (.cons .refl (.cons .refl (.cons .nil (.cons .refl (.cons .refl (.cons .refl .nil)))))))) ?_
      refine xp ?_
      refine xl ?_
      iterate 3 refine xp ?_
      cases h
      refine xq ?_
      exact xm [] .nil (xh1 trivial)
     | false =>
      have h := cF c25 h
      iterate 6 refine xs ?_
      iterate 2 refine xp ?_
      cases h
      refine xq ?_
      exact xm [] .nil (xh1 trivial)
    | false =>
     have h := cF c24 h
     iterate 4 refine xs ?_
     iterate 2 refine xp ?_
     iterate 6 refine xs ?_
     iterate 2 refine xp ?_
     cases h
     refine xq ?_
     exact xm [] .nil (xh1 trivial)
   ·replace h := Option.some.inj h
    refine vc_ret ⟨.inr rfl, [B v23], (.cons rfl ⟨_, .d, .refl⟩ .nil), ?_⟩
    first | (rw [← h]; done) | (rw [← h]; rfl) | (rw [← h]; simp)
def kPairNext (a0 : TPair) (a1 : Layout) (frame : Int) (many : Int) (down : Bool) (up : Bool) : Option (TPair) := Option.bind (cond down (lt (told 0 a0.listener frame) fun v3 => some v3) (some a0.bySender)) fun v1 => Option.bind (kBTake a1 a0.sender 1 v1 frame) fun v4 => Option.bind (cond up (lt (told 1 v4 frame) fun v7 => some v7) (some a0.byListener)) fun v5 => some ⟨⟨a0.listener.uses, a0.listener.grants, a0.listener.asks⟩, ⟨v4.uses, v4.grants, v4.asks⟩, v5, v1⟩
theorem kPairNext_ok (a0 : TPair) (a1 : Layout) (frame : Int) (many : Int) (down : Bool) (up : Bool) (r : TPair) (h : kPairNext a0 a1 frame many down up = some r) : PCalls Tryz.prog 28 [encTPair a0, encLayout a1, I frame, I many, B down, B up] (encTPair r) := by
 unfold kPairNext at h
 refine xe 34 Tryz.func28 ?_
 refine xsr ?_
 refine xa ?_
 refine xa ?_
 refine xa ?_
 refine xq ?_
 refine vc_seq ?_
 refine vc_seq ?_
 refine xk [0, 2] [(2, .d (I frame)), (4, .d (B down)), (5, .d (B up)), (6, .own 0 0), (7, .d (.ptr [I a1.nodes, I a1.data])), (12, .own 1 0)] (σ' := [.cells [.d (.list 4 (a0.listener.uses.map encUse)), .d (.list 5 (a0.listener.grants.map encGrant)), .d (.list 3 (a0.listener.asks.map encAsk)), .d (.list 4 (a0.sender.uses.map encUse)), .d (.list 5 (a0.sender.grants.map encGrant)), .d (.list 3 (a0.sender.asks.map encAsk)), .d (.list 31 (a0.byListener.map encNear)), .d (.list 31 (a0.bySender.map encNear))], .cells [.d (.lit (.slice none 0 0)), .d (.lit (.slice none 0 0)), .d (.lit (.slice none 0 0)), .d (.lit (.slice none 0 0)), .d (.lit (.slice none 0 0)), .d (.lit (.slice none 0 0)), .d (.lit (.slice none 0 0)), .d (.lit (.slice none 0 0))]]) (.cons rfl (.cells (.cons (.h rfl rfl) (.cons (.h rfl rfl) (.cons (.h rfl rfl) (.cons (.h rfl rfl) (.cons (.h rfl rfl) (.cons (.h rfl rfl) (.cons (.h rfl rfl) (.cons (.h rfl rfl) .nil))))))))) (.cons rfl (.cells (.cons (.h rfl rfl) (.cons (.h rfl rfl) (.cons (.h rfl rfl) (.cons (.h rfl rfl) (.cons (.h rfl rfl) (.cons (.h rfl rfl) (.cons (.h rfl rfl) (.cons (.h rfl rfl) .nil))))))))) .nil)) (xh3 (xh1 ⟨.z (.own' rfl (.cons .d (.cons .d .nil))) .refl, (xh1 trivial)⟩)) ?_
 refine xr ?_
 refine xp ?_
 refine xq ?_
 obtain ⟨v1, hv1, h⟩ := bindO h
 refine vc_midQ [(2, .d (I frame)), (5, .d (B up)), (6, .own 0 0), (7, .d (.ptr [I a1.nodes, I a1.data])), (12, .own 1 0)] [.cells [.d (.list 4 (a0.listener.uses.map encUse)), .d (.list 5 (a0.listener.grants.map encGrant)), .d (.list 3 (a0.listener.asks.map encAsk)), .d (.list 4 (a0.sender.uses.map encUse)), .d (.list 5 (a0.sender.grants.map encGrant)), .d (.list 3 (a0.sender.asks.map encAsk)), .d (.list 31 (a0.byListener.map encNear)), .d (.list 31 (v1.map encNear))], .cells [.d (.lit (.slice none 0 0)), .d (.lit (.slice none 0 0)), .d (.lit (.slice none 0 0)), .d (.lit (.slice none 0 0)), .d (.lit (.slice none 0 0)), .d (.lit (.slice none 0 0)), .d (.lit (.slice none 0 0)), .d (.lit (.slice none 0 0))]] ?_ ?_
 ·replace h := hv1; clear hv1
  cases c2 : down with
  | true =>
   have h := cT c2 h
   refine vc_condT rfl ?_
   refine xr ?_
   refine xp ?_
   refine xR ?_
   refine xp ?_
   obtain ⟨v3, hv3, h⟩ := bindT h
   refine xc (told_ok 0 a0.listener frame _ hv3) ?_
   refine xp ?_
   refine xw ?_
   refine xq ?_
   cases h
   exact xm [0, 1] ((.cons rfl (.cells (.cons (.h rfl rfl) (.cons (.h rfl rfl) (.cons (.h rfl rfl) (.cons (.h rfl rfl) (.cons (.h rfl rfl) (.cons (.h rfl rfl) (.cons (.h rfl rfl) (.cons (.h rfl rfl) .nil))))))))) (.cons rfl (.cells (.cons (.h rfl rfl) (.cons (.h rfl rfl) (.cons (.h rfl rfl) (.cons (.h rfl rfl) (.cons (.h rfl rfl) (.cons (.h rfl rfl) (.cons (.h rfl rfl) (.cons (.h rfl rfl) .nil))))))))) .nil))) (xh5 trivial)
  | false =>
   have h := cF c2 h
   refine vc_condF rfl ?_
   refine vc_skip ?_
   cases h
   exact xm [0, 1] ((.cons rfl (.cells (.cons (.h rfl rfl) (.cons (.h rfl rfl) (.cons (.h rfl rfl) (.cons (.h rfl rfl) (.cons (.h rfl rfl) (.cons (.h rfl rfl) (.cons (.h rfl rfl) (.cons (.h rfl rfl) .nil))))))))) (.cons rfl (.cells (.cons (.h rfl rfl) (.cons (.h rfl rfl) (.cons (.h rfl rfl) (.cons (.h rfl rfl) (.cons (.h rfl rfl) (.cons (.h rfl rfl) (.cons (.h rfl rfl) (.cons (.h rfl rfl) .nil))))))))) .nil))) (xh5 trivial)
 ·refine xsr ?_
  iterate 2 refine xp ?_
  refine xR ?_
  refine xp ?_
  refine xR ?_
  refine xp ?_
  obtain ⟨v4, hv4, h⟩ := bindO h
  refine xc (kBTake_ok a1 a0.sender 1 v1 frame _ hv4) ?_
  refine xp ?_
  refine xw ?_
  refine xq ?_
  refine vc_seq ?_
  refine xsr ?_
  refine xp ?_
  refine xq ?_
  obtain ⟨v5, hv5, h⟩ := bindO h
  refine vc_midQ [(6, .own 0 0), (12, .own 1 0)] [.cells [.d (.list 4 (a0.listener.uses.map encUse)), .d (.list 5 (a0.listener.grants.map encGrant)), .d (.list 3 (a0.listener.asks.map encAsk)), .d (.list 4 (v4.uses.map encUse)), .d (.list 5 (v4.grants.map encGrant)), .d (.list 3 (v4.asks.map encAsk)), .d (.list 31 (v5.map encNear)), .d (.list 31 (v1.map encNear))], .cells [.d (.lit (.slice none 0 0)), .d (.lit (.slice none 0 0)), .d (.lit (.slice none 0 0)), .d (.lit (.slice none 0 0)), .d (.lit (.slice none 0 0)), .d (.lit (.slice none 0 0)), .d (.lit (.slice none 0 0)), .d (.lit (.slice none 0 0))]] ?_ ?_
  ·replace h := hv5; clear hv5
   cases c6 : up with
   | true =>
    have h := cT c6 h
    refine vc_condT rfl ?_
    refine xr ?_
    refine xp ?_
    refine xR ?_
    refine xp ?_
    obtain ⟨v7, hv7, h⟩ := bindT h
    refine xc (told_ok 1 v4 frame _ hv7) ?_
    refine xp ?_
    refine xw ?_
    refine xq ?_
    cases h
    exact xm [0, 1] ((.cons rfl (.cells (.cons (.h rfl rfl) (.cons (.h rfl rfl) (.cons (.h rfl rfl) (.cons (.h rfl rfl) (.cons (.h rfl rfl) (.cons (.h rfl rfl) (.cons (.h rfl rfl) (.cons (.h rfl rfl) .nil))))))))) (.cons rfl (.cells (.cons (.h rfl rfl) (.cons (.h rfl rfl) (.cons (.h rfl rfl) (.cons (.h rfl rfl) (.cons (.h rfl rfl) (.cons (.h rfl rfl) (.cons (.h rfl rfl) (.cons (.h rfl rfl) .nil))))))))) .nil))) (xh2 trivial)
   | false =>
    have h := cF c6 h
    refine vc_condF rfl ?_
    refine vc_skip ?_
    cases h
    exact xm [0, 1] ((.cons rfl (.cells (.cons (.h rfl rfl) (.cons (.h rfl rfl) (.cons (.h rfl rfl) (.cons (.h rfl rfl) (.cons (.h rfl rfl) (.cons (.h rfl rfl) (.cons (.h rfl rfl) (.cons (.h rfl rfl) .nil))))))))) (.cons rfl (.cells (.cons (.h rfl rfl) (.cons (.h rfl rfl) (.cons (.h rfl rfl) (.cons (.h rfl rfl) (.cons (.h rfl rfl) (.cons (.h rfl rfl) (.cons (.h rfl rfl) (.cons (.h rfl rfl) .nil))))))))) .nil))) (xh2 trivial)
  ·refine vc_seq ?_
   refine xk [1] [(6, .d (.ptr [.list 4 (a0.listener.uses.map encUse), .list 5 (a0.listener.grants.map encGrant), .list 3 (a0.listener.asks.map encAsk), .list 4 (v4.uses.map encUse), .list 5 (v4.grants.map encGrant), .list 3 (v4.asks.map encAsk), .list 31 (v5.map encNear), .list 31 (v1.map encNear)])), (12, .own 0 0)] (σ' := [.cells [.d (.lit (.slice none 0 0)), .d (.lit (.slice none 0 0)), .d (.lit (.slice none 0 0)), .d (.lit (.slice none 0 0)), .d (.lit (.slice none 0 0)), .d (.lit (.slice none 0 0)), .d (.lit (.slice none 0 0)), .d (.lit (.slice none 0 0))]]) (.cons rfl (.cells (.cons (.h rfl rfl) (.cons (.h rfl rfl) (.cons (.h rfl rfl) (.cons (.h rfl rfl) (.cons (.h rfl rfl) (.cons (.h rfl rfl) (.cons (.h rfl rfl) (.cons (.h rfl rfl) .nil))))))))) .nil) ⟨.z (.own' rfl (.cons .d (.cons .d (.cons .d (.cons .d (.cons .d (.cons .d (.cons .d (.cons .d .nil))))))))) .refl, (xh1 trivial)⟩ ?_
   refine xr ?_
   refine xp ?_
   refine xw ?_
   refine xq ?_
   replace h := Option.some.inj h
   refine vc_ret ⟨.inr rfl, [encTPair ⟨⟨a0.listener.uses, a0.listener.grants, a0.listener.asks⟩, ⟨v4.uses, v4.grants, v4.asks⟩, v5, v1⟩], (.cons rfl ⟨_, .d, .refl⟩ .nil), ?_⟩
   first | (rw [← h]; done) | (rw [← h]; rfl) | (rw [← h]; simp)
def kPairTurn (a0 : TPair) (a1 : Layout) (frame : Int) (many : Int) : Option (TPair) := Option.bind (kBGrant a1 a0.listener 0 a0.byListener frame) fun v1 => Option.bind (kBAsk a1 a0.sender 1 a0.bySender 0 many frame) fun v2 => some ⟨⟨v1.uses, v1.grants, v1.asks⟩, ⟨v2.uses, v2.grants, v2.asks⟩, a0.byListener, a0.bySender⟩
theorem kPairTurn_ok (a0 : TPair) (a1 : Layout) (frame : Int) (many : Int) (r : TPair) (h : kPairTurn a0 a1 frame many = some r) : PCalls Tryz.prog 30 [encTPair a0, encLayout a1, I frame, I many] (encTPair r) := by
 unfold kPairTurn at h
 refine xe 27 Tryz.func30 ?_
 refine xsr ?_
 refine xa ?_
 refine xa ?_
 refine xa ?_
 refine xq ?_
 refine vc_seq ?_
 refine xk [0, 2] [(2, .d (I frame)), (3, .d (I many)), (4, .own 0 0), (5, .d (.ptr [I a1.nodes, I a1.data])), (8, .own 1 0)] (σ' := [.cells [.d (.list 4 (a0.listener.uses.map encUse)), .d (.list 5 (a0.listener.grants.map encGrant)), .d (.list 3 (a0.listener.asks.map encAsk)), .d (.list 4 (a0.sender.uses.map encUse)), .d (.list 5 (a0.sender.grants.map encGrant)), .d (.list 3 (a0.sender.asks.map encAsk)), .d (.list 31 (a0.byListener.map encNear)), .d (.list 31 (a0.bySender.map encNear))], .cells [.d (.lit (.slice none 0 0)), .d (.lit (.slice none 0 0)), .d (.lit (.slice none 0 0)), .d (.lit (.slice none 0 0)), .d (.lit (.slice none 0 0)), .d (.lit (.slice none 0 0)), .d (.lit (.slice none 0 0)), .d (.lit (.slice none 0 0))]]) (.cons rfl (.cells (.cons (.h rfl rfl) (.cons (.h rfl rfl) (.cons (.h rfl rfl) (.cons (.h rfl rfl) (.cons (.h rfl rfl) (.cons (.h rfl rfl) (.cons (.h rfl rfl) (.cons (.h rfl rfl) .nil))))))))) (.cons rfl (.cells (.cons (.h rfl rfl) (.cons (.h rfl rfl) (.cons (.h rfl rfl) (.cons (.h rfl rfl) (.cons (.h rfl rfl) (.cons (.h rfl rfl) (.cons (.h rfl rfl) (.cons (.h rfl rfl) .nil))))))))) .nil)) (xh3 ⟨.z (.own' rfl (.cons .d (.cons .d .nil))) .refl, (xh1 trivial)⟩) ?_
 refine xr ?_
 iterate 2 refine xp ?_
 refine xR ?_
 refine xp ?_
 refine xR ?_
 refine xp ?_
 obtain ⟨v1, hv1, h⟩ := bindO h
 refine xc (kBGrant_ok a1 a0.listener 0 a0.byListener frame _ hv1) ?_
 refine xp ?_
 refine xw ?_
 refine xq ?_
 refine xsr ?_
 iterate 2 refine xp ?_
 refine xR ?_
 refine xp ?_
 refine xR ?_
 iterate 2 refine xp ?_
 obtain ⟨v2, hv2, h⟩ := bindO h
 refine xc (kBAsk_ok a1 a0.sender 1 a0.bySender 0 many frame _ hv2) ?_
 refine xp ?_
 refine xw ?_
 refine xq ?_
 refine vc_seq ?_
 refine xk [1] [(4, .d (.ptr [.list 4 (v1.uses.map encUse), .list 5 (v1.grants.map encGrant), .list 3 (v1.asks.map encAsk), .list 4 (v2.uses.map encUse), .list 5 (v2.grants.map encGrant), .list 3 (v2.asks.map encAsk), .list 31 (a0.byListener.map encNear), .list 31 (a0.bySender.map encNear)])), (8, .own 0 0)] (σ' := [.cells [.d (.lit (.slice none 0 0)), .d (.lit (.slice none 0 0)), .d (.lit (.slice none 0 0)), .d (.lit (.slice none 0 0)), .d (.lit (.slice none 0 0)), .d (.lit (.slice none 0 0)), .d (.lit (.slice none 0 0)), .d (.lit (.slice none 0 0))]]) (.cons rfl (.cells (.cons (.h rfl rfl) (.cons (.h rfl rfl) (.cons (.h rfl rfl) (.cons (.h rfl rfl) (.cons (.h rfl rfl) (.cons (.h rfl rfl) (.cons (.h rfl rfl) (.cons (.h rfl rfl) .nil))))))))) .nil) ⟨.z (.own' rfl (.cons .d (.cons .d (.cons .d (.cons .d (.cons .d (.cons .d (.cons .d (.cons .d .nil))))))))) .refl, (xh1 trivial)⟩ ?_
 refine xr ?_
 refine xp ?_
 refine xw ?_
 refine xq ?_
 replace h := Option.some.inj h
 refine vc_ret ⟨.inr rfl, [encTPair ⟨⟨v1.uses, v1.grants, v1.asks⟩, ⟨v2.uses, v2.grants, v2.asks⟩, a0.byListener, a0.bySender⟩], (.cons rfl ⟨_, .d, .refl⟩ .nil), ?_⟩
 first | (rw [← h]; done) | (rw [← h]; rfl) | (rw [← h]; simp)
def kLaw8_L1 (data : Int) (many : Int) (first : Int) : Nat → Int → Bool → (List Use) → (List Grant) → (List Ask) → (List Use) → (List Grant) → (List Ask) → (List Near) → (List Near) → Option (Bool × List Use × List Grant × List Ask × List Use × List Grant × List Ask × List Near × List Near)
 | 0, i17, p8, p9, p10, p11, p12, p13, p14, p15, p16 => some (p8, p9, p10, p11, p12, p13, p14, p15, p16)
 | k + 1, i17, p8, p9, p10, p11, p12, p13, p14, p15, p16 => Option.bind (kPairNext ⟨⟨p9, p10, p11⟩, ⟨p12, p13, p14⟩, p15, p16⟩ ⟨2, data⟩ (IntKind.i64.wrap (first + i17)) many true true) fun v19 => Option.bind (kPairTurn v19 ⟨2, data⟩ (IntKind.i64.wrap (first + i17)) (maxI 0 (IntKind.i64.wrap (many - (v19.sender.uses.length : Int))))) fun v20 => kLaw8_L1 data many first k (i17 + 1) (p8 && ((decide (i17 < 2)) || (decide ((v20.sender.uses.length : Int) ≥ (minI many data))))) v20.listener.uses v20.listener.grants v20.listener.asks v20.sender.uses v20.sender.grants v20.sender.asks v20.byListener v20.bySender
def kLaw8 (data : Int) (many : Int) (first : Int) : Option (Bool) := Option.bind (kLhead) fun v1 => cond ((decide (data < 1)) || ((decide (data > 60)) || ((decide (many < 0)) || ((decide (many > 24)) || ((decide (first < 0)) || (decide (first > 999999900))))))) (some v1) (Option.bind (kLaw8_L1 data many first ((12 : Int) - 0).toNat 0 v1 [] [] [] [] [] [] [] []) fun v18 => some v18.1)
theorem kLaw8_ok (data : Int) (many : Int) (first : Int) (r : Bool) (h : kLaw8 data many first = some r) : PCalls Tryz.prog 8 [I data, I many, I first] (B r) := by
 unfold kLaw8 at h
 refine xe 77 Tryz.func8 ?_
 refine xsr ?_
 refine xp ?_
 refine xq ?_
 refine xsr ?_
 obtain ⟨v1, hv1, h⟩ := bindO h
 refine xc (kLhead_ok _ hv1) ?_
 refine xp ?_
 refine xq ?_
 refine xsr ?_
 iterate 2 refine xp ?_
 refine xa ?_
 refine xw ?_
 refine xq ?_
 refine vc_seq ?_
 refine vc_seq ?_
 refine xk [] [(0, .d (I data)), (1, .d (I many)), (2, .d (I first)), (7, .d (B v1)), (8, .d (.ptr [I 2, I data]))] .nil (xh3 (xh1 ⟨.z (.own' rfl (.cons .d (.cons .d .nil))) .refl, trivial⟩)) ?_
 refine vc_midQ [(0, .d (I data)), (1, .d (I many)), (2, .d (I first)), (7, .d (B v1)), (8, .d (.ptr [I 2, I data])), (35, .d (B ((decide (data < 1)) || ((decide (data > 60)) || ((decide (many < 0)) || ((decide (many > 24)) || ((decide (first < 0)) || (decide (first > 999999900)))))))))] [] ?_ ?_
 ·refine xr ?_
  iterate 3 refine xp ?_
  cases c2 : decide (data < 1) with
  | true =>
   iterate 2 refine xs ?_
   iterate 2 refine xp ?_
   iterate 2 refine xs ?_
   iterate 2 refine xp ?_
   iterate 2 refine xs ?_
   iterate 2 refine xp ?_
   iterate 2 refine xs ?_
   iterate 2 refine xp ?_
   iterate 2 refine xs ?_
   refine xp ?_
   refine xq ?_
   exact xm [] .nil (xh5 (xh1 trivial))
  | false =>
   iterate 4 refine xp ?_
   cases c3 : decide (data > 60) with
   | true =>
    iterate 2 refine xs ?_
    iterate 2 refine xp ?_
    iterate 2 refine xs ?_
    iterate 2 refine xp ?_
    iterate 2 refine xs ?_
    iterate 2 refine xp ?_
    iterate 2 refine xs ?_
    refine xp ?_
    refine xq ?_
    exact xm [] .nil (xh5 (xh1 trivial))
   | false =>
    iterate 4 refine xp ?_
    cases c4 : decide (many < 0) with
    | true =>
     iterate 2 refine xs ?_
     iterate 2 refine xp ?_
     iterate 2 refine xs ?_
     iterate 2 refine xp ?_
     iterate 2 refine xs ?_
     refine xp ?_
     refine xq ?_
     exact xm [] .nil (xh5 (xh1 trivial))
    | false =>
     iterate 4 refine xp ?_
     cases c5 : decide (many > 24) with
     | true =>
      iterate 2 refine xs ?_
      iterate 2 refine xp ?_
      iterate 2 refine xs ?_
      refine xp ?_
      refine xq ?_
      exact xm [] .nil (xh5 (xh1 trivial))
     | false =>
      iterate 4 refine xp ?_
      cases c6 : decide (first < 0) with
      | true =>
       iterate 2 refine xs ?_
       refine xp ?_
       refine xq ?_
       exact xm [] .nil (xh5 (xh1 trivial))
      | false =>
       iterate 3 refine xp ?_
       refine xq ?_
       exact xm [] .nil (xh5 (xh1 trivial))
 ·cases c7 : ((decide (data < 1)) || ((decide (data > 60)) || ((decide (many < 0)) || ((decide (many > 24)) || ((decide (first < 0)) || (decide (first > 999999900))))))) with
  | true =>
   have h := cT c7 h
   refine vc_condT rfl ?_
   refine xsr ?_
   iterate 2 refine xp ?_
   refine xq ?_
   replace h := Option.some.inj h
   refine vc_ret ⟨.inr rfl, [B v1], (.cons rfl ⟨_, .d, .refl⟩ .nil), ?_⟩
   first | (rw [← h]; done) | (rw [← h]; rfl) | (rw [← h]; simp)
  | false =>
   have h := cF c7 h
   refine vc_condF rfl ?_
   refine vc_skip ?_
   refine xsr ?_
   refine xa ?_
   refine xq ?_
   refine vc_seq ?_
   refine xsr ?_
   refine xp ?_
   refine xq ?_
   obtain ⟨v18, hv18, hLv18⟩ := bindO h
   refine vc_midQ [(7, .d (B v18.1))] [] ?_ ?_
   ·refine vc_block ?_
    refine vc_loop ?_
    refine xK [0] [(0, .d (I data)), (1, .d (I many)), (2, .d (I first)), (7, .d (B v1)), (8, .d (.ptr [I 2, I data])), (9, .own 0 0), (10, .d (I 0))] (σ' := [.cells [.d (.list 4 ([].map encUse)), .d (.list 5 ([].map encGrant)), .d (.list 3 ([].map encAsk)), .d (.list 4 ([].map encUse)), .d (.list 5 ([].map encGrant)), .d (.list 3 ([].map encAsk)), .d (.list 31 ([].map encNear)), .d (.list 31 ([].map encNear))]]) (.cons rfl (.cells (.cons (.w rfl .nil) (.cons (.w rfl .nil) (.cons (.w rfl .nil) (.cons (.w rfl .nil) (.cons (.w rfl .nil) (.cons (.w rfl .nil) (.cons (.w rfl .nil) (.cons (.w rfl .nil) .nil))))))))) .nil) (xh5 (xh2 trivial)) ?_
    have hn : (12 : Int) ≤ 9223372036854775807 := by decide
    refine vcl_num 12 (fun (k : Nat) (i : Int) (s : Bool × List Use × List Grant × List Ask × List Use × List Grant × List Ask × List Near × List Near) => kLaw8_L1 data many first k i s.1 s.2.1 s.2.2.1 s.2.2.2.1 s.2.2.2.2.1 s.2.2.2.2.2.1 s.2.2.2.2.2.2.1 s.2.2.2.2.2.2.2.1 s.2.2.2.2.2.2.2.2) (some v18) (fun i s => envOf [(0, .d (I data)), (1, .d (I many)), (2, .d (I first)), (7, .d (B s.1)), (8, .d (.ptr [I 2, I data])), (9, .own 0 0), (10, .d (I i))]) (fun i s => [.cells [.d (.list 4 (s.2.1.map encUse)), .d (.list 5 (s.2.2.1.map encGrant)), .d (.list 3 (s.2.2.2.1.map encAsk)), .d (.list 4 (s.2.2.2.2.1.map encUse)), .d (.list 5 (s.2.2.2.2.2.1.map encGrant)), .d (.list 3 (s.2.2.2.2.2.2.1.map encAsk)), .d (.list 31 (s.2.2.2.2.2.2.2.1.map encNear)), .d (.list 31 (s.2.2.2.2.2.2.2.2.map encNear))]]) ?step1 ?done1 0 (v1, [], [], [], [], [], [], [], []) (by omega) hv18
    case step1 =>
     rintro k i17 ⟨p8, p9, p10, p11, p12, p13, p14, p15, p16⟩ h0 h1 h ih
     replace h : kLaw8_L1 data many first (k + 1) i17 p8 p9 p10 p11 p12 p13 p14 p15 p16 = some v18 := h
     rw [kLaw8_L1] at h
     show VCL _ _ _ _ _ (envOf _) (_ :: _)
     refine vcl_unroll ?_
     refine vc_seq ?_
     refine xsr ?_
     iterate 2 refine xp ?_
     refine xq ?_
     refine vc_cond rfl (fun _ => ?_) (fun hf => absurd hf (by simp; omega))
     refine vc_skip ?_
     refine vc_seq ?_
     refine vc_block ?_
     refine xsr ?_
     refine xR ?_
     iterate 5 refine xp ?_
     obtain ⟨v19, hv19, h⟩ := bindO h
     refine xc (kPairNext_ok ⟨⟨p9, p10, p11⟩, ⟨p12, p13, p14⟩, p15, p16⟩ ⟨2, data⟩ (IntKind.i64.wrap (first + i17)) many true true _ hv19) ?_
     refine xw ?_
     refine xq ?_
     refine xsr ?_
     refine xR ?_
     iterate 7 refine xp ?_
     refine xR ?_
     refine xl ?_
     iterate 2 refine xp ?_
     obtain ⟨v20, hv20, h⟩ := bindO h
     refine xc (kPairTurn_ok v19 ⟨2, data⟩ (IntKind.i64.wrap (first + i17)) (maxI 0 (IntKind.i64.wrap (many - (v19.sender.uses.length : Int)))) _ hv20) ?_
     refine xw ?_
     refine xq ?_
     refine vc_midQ [(0, .d (I data)), (1, .d (I many)), (2, .d (I first)), (7, .d (B (p8 && ((decide (i17 < 2)) || (decide ((v20.sender.uses.length : Int) ≥ (minI many data))))))), (8, .d (.ptr [I 2, I data])), (9, .own 0 0), (10, .d (I i17))] [.cells [.d (.list 4 (v20.listener.uses.map encUse)), .d (.list 5 (v20.listener.grants.map encGrant)), .d (.list 3 (v20.listener.asks.map encAsk)), .d (.list 4 (v20.sender.uses.map encUse)), .d (.list 5 (v20.sender.grants.map encGrant)), .d (.list 3 (v20.sender.asks.map encAsk)), .d (.list 31 (v20.byListener.map encNear)), .d (.list 31 (v20.bySender.map encNear))]] ?_ ?_
     ·refine xr ?_
      iterate 2 refine xp ?_
      cases c21 : p8 with
      | true =>
       iterate 3 refine xp ?_
       cases c22 : decide (i17 < 2) with
       | true =>
        iterate 8 refine xs ?_
        iterate 3 refine xp ?_
        refine xq ?_
        exact xm [0] ((.cons rfl (.cells (.cons (.h rfl rfl) (.cons (.h rfl rfl) (.cons (.h rfl rfl) (.cons (.h rfl rfl) (.cons (.h rfl rfl) (.cons (.h rfl rfl) (.cons (.h rfl rfl) (.cons (.h rfl rfl) .nil))))))))) .nil)) (xh5 (xh2 trivial))
       | false =>
        iterate 2 refine xp ?_
        refine xR ?_
        refine xl ?_
        iterate 7 refine xp ?_
        refine xq ?_
        exact xm [0] ((.cons rfl (.cells (.cons (.h rfl rfl) (.cons (.h rfl rfl) (.cons (.h rfl rfl) (.cons (.h rfl rfl) (.cons (.h rfl rfl) (.cons (.h rfl rfl) (.cons (.h rfl rfl) (.cons (.h rfl rfl) .nil))))))))) .nil)) (xh5 (xh2 trivial))
      | false =>
       iterate 12 refine xs ?_
       iterate 2 refine xp ?_
       refine xq ?_
       exact xm [0] ((.cons rfl (.cells (.cons (.h rfl rfl) (.cons (.h rfl rfl) (.cons (.h rfl rfl) (.cons (.h rfl rfl) (.cons (.h rfl rfl) (.cons (.h rfl rfl) (.cons (.h rfl rfl) (.cons (.h rfl rfl) .nil))))))))) .nil)) (xh5 (xh2 trivial))
     ·refine xr ?_
      iterate 3 refine xp ?_
      refine xq ?_
      exact xv [0] (ih ((p8 && ((decide (i17 < 2)) || (decide ((v20.sender.uses.length : Int) ≥ (minI many data))))), v20.listener.uses, v20.listener.grants, v20.listener.asks, v20.sender.uses, v20.sender.grants, v20.sender.asks, v20.byListener, v20.bySender) h) (.cons rfl (.cells (.cons (.h rfl rfl) (.cons (.h rfl rfl) (.cons (.h rfl rfl) (.cons (.h rfl rfl) (.cons (.h rfl rfl) (.cons (.h rfl rfl) (.cons (.h rfl rfl) (.cons (.h rfl rfl) .nil))))))))) .nil) (xh5 (xh1 ⟨.e rfl (numD h0 h1 hn), trivial⟩))
    case done1 =>
     rintro i17 ⟨p8, p9, p10, p11, p12, p13, p14, p15, p16⟩ h0 h1 h
     replace h : kLaw8_L1 data many first 0 i17 p8 p9 p10 p11 p12 p13 p14 p15 p16 = some v18 := h
     rw [kLaw8_L1] at h
     show VCL _ _ _ _ _ (envOf _) (_ :: _)
     refine vcl_unroll ?_
     refine vc_seq ?_
     refine xsr ?_
     iterate 2 refine xp ?_
     refine xq ?_
     refine vc_cond rfl (fun ht => absurd ht (by simp; try omega)) (fun _ => ?_)
     refine vc_exit ?_
     cases h
     exact xm [] .nil (xh1 trivial)
   ·have h := hLv18
    refine xsr ?_
    iterate 2 refine xp ?_
    refine xq ?_
    replace h := Option.some.inj h
    refine vc_ret ⟨.inr rfl, [B v18.1], (.cons rfl ⟨_, .d, .refl⟩ .nil), ?_⟩
    first | (rw [← h]; done) | (rw [← h]; rfl) | (rw [← h]; simp)
end Go.VM.Tryz
namespace Go.VM.Tryz
theorem wr {n : Int} (h0 : -9223372036854775808 ≤ n) (h1 : n ≤ 9223372036854775807) : IntKind.i64.wrap n = n := i64_wrap h0 h1
def prevOk : Option Int → Int → Bool
 | some k, s => decide (k < s)
 | none, _ => true
@[simp] theorem prevOk_some {k s : Int} : prevOk (some k) s = decide (k < s) := rfl
@[simp] theorem prevOk_none {s : Int} : prevOk none s = true := rfl
def chain {α : Type} (v : α → Bool) (sl : α → Int) : Option Int → List α → Bool
 | _, [] => true
 | o, x :: l => v x && (prevOk o (sl x) && chain v sl (some (sl x)) l)
theorem chain_some {α : Type} {v : α → Bool} {sl : α → Int} : ∀ {l : List α} {k : Int}, chain v sl (some k) l = true ↔ (∀ x ∈ l, v x = true) ∧ (∀ x ∈ l, k < sl x) ∧ l.Pairwise (fun x y => sl x < sl y)
 | [], k => by simp [chain]
 | x :: l, k => by
  simp only [chain, prevOk, Bool.and_eq_true, decide_eq_true_eq, chain_some, List.mem_cons, forall_eq_or_imp, List.pairwise_cons]
  constructor
  ·rintro ⟨h1, h2, h3, h4, h5⟩; exact ⟨⟨h1, h3⟩, ⟨h2, fun y hy => Int.lt_trans h2 (h4 y hy)⟩, h4, h5⟩
  ·rintro ⟨⟨h1, h3⟩, ⟨h2, _⟩, h4, h5⟩; exact ⟨h1, h2, h3, h4, h5⟩
theorem chain_none {α : Type} {v : α → Bool} {sl : α → Int} {l : List α} : chain v sl none l = true ↔ (∀ x ∈ l, v x = true) ∧ l.Pairwise (fun x y => sl x < sl y) := by
 cases l with
 | nil => simp [chain]
 | cons x l =>
  simp only [chain, prevOk, Bool.and_eq_true, true_and, chain_some, List.mem_cons, forall_eq_or_imp, List.pairwise_cons]
  constructor
  ·rintro ⟨h1, h3, h4, h5⟩; exact ⟨⟨h1, h3⟩, h4, h5⟩
  ·rintro ⟨⟨h1, h3⟩, h4, h5⟩; exact ⟨h1, h3, h4, h5⟩
structure ValidT (l : Layout) (t : Table) : Prop where
 n1 : 1 ≤ l.nodes
 n2 : l.nodes ≤ 60
 d1 : 1 ≤ l.data
 d2 : l.data ≤ 60
 len : t.uses.length + t.grants.length ≤ 24
 alen : t.asks.length ≤ 24
 u : ∀ x ∈ t.uses, isUse x l = true
 g : ∀ x ∈ t.grants, isGrant x l = true
 a : ∀ x ∈ t.asks, isAsk x l = true
 us : t.uses.Pairwise (fun x y => x.cell.slot < y.cell.slot)
 gs : t.grants.Pairwise (fun x y => x.cell.slot < y.cell.slot)
 ac : t.asks.Pairwise (fun x y => x.cell.slot < y.cell.slot)
 one : (t.uses.map (·.cell.slot) ++ t.grants.map (·.cell.slot) ++ t.asks.map (·.cell.slot)).Nodup
open Classical in
noncomputable def validT (l : Layout) (t : Table) : Bool := decide (ValidT l t)
theorem validT_iff {l : Layout} {t : Table} : validT l t = true ↔ ValidT l t := by simp [validT]
structure MInv (m : List (Int × Int)) (s : List Int) : Prop where
 cnt : ∀ y ∈ m, y.2 = (s.count y.1 : Nat)
 nod : (m.map (·.1)).Nodup
 all : ∀ n ∈ s, ∃ y ∈ m, y.1 = n
theorem minv_nil : MInv [] [] := ⟨by simp, by simp, by simp⟩
theorem minv_bump {m : List (Int × Int)} {s : List Int} (h : MInv m s) (n : Int) (hs : s.length ≤ 1000000000) : MInv (bump n m) (s ++ [n]) := by
 unfold bump mputI mgetI
 have hc : (s.count n : Int) ≤ 1000000000 := by have := List.count_le_length (a := n) (l := s); omega
 cases hf : m.findIdx? (fun y => y.1 == n) with
 | none =>
  simp only [List.findIdx?_eq_none_iff, beq_eq_false_iff_ne] at hf
  have h0 : s.count n = 0 := List.count_eq_zero.2 fun hm => by obtain ⟨y, hy, e⟩ := h.all n hm; exact hf y hy e
  refine ⟨fun y hy => ?_, ?_, fun k hk => ?_⟩
  ·simp only [List.mem_append, List.mem_singleton] at hy
   rcases hy with hy | rfl
   ·rw [h.cnt y hy, List.count_append, List.count_singleton, if_neg (by simpa using fun e => hf y hy e.symm)]; simp
   ·rw [List.count_append, h0]; simp [IntKind.wrap, IntKind.signed, IntKind.bits]
  ·simp only [List.map_append, List.map_cons, List.map_nil]
   rw [List.nodup_append]
   refine ⟨h.nod, by simp, fun a ha b hb => ?_⟩
   simp only [List.mem_map] at ha
   obtain ⟨y, hy, rfl⟩ := ha
   simp only [List.mem_singleton] at hb
   subst hb; exact hf y hy
  ·simp only [List.mem_append, List.mem_singleton] at hk
   rcases hk with hk | rfl
   ·obtain ⟨y, hy, e⟩ := h.all k hk; exact ⟨y, by simp [hy], e⟩
   ·exact ⟨(k, _), List.mem_append_right _ (List.mem_singleton.2 rfl), rfl⟩
 | some j =>
  obtain ⟨hj, hp, _⟩ := List.findIdx?_eq_some_iff_getElem.1 hf
  simp only [beq_iff_eq] at hp
  have hm : m[j]? = some m[j] := List.getElem?_eq_getElem hj
  have hv := h.cnt m[j] (List.getElem_mem _)
  rw [hp] at hv
  simp only [hm, Option.map_some, Option.getD_some, hv]
  rw [wr (by omega) (by omega)]
  have hne : ∀ i (hi : i < m.length), i ≠ j → m[i].1 ≠ n := fun i hi hij e => by
   have := h.nod
   rw [List.nodup_iff_pairwise_ne, List.pairwise_iff_getElem] at this
   rcases Nat.lt_or_gt_of_ne hij with h1 | h1
   ·exact this i j (by simpa) (by simpa) h1 (by simp [e, hp])
   ·exact this j i (by simpa) (by simpa) h1 (by simp [e, hp])
  refine ⟨fun y hy => ?_, ?_, fun k hk => ?_⟩
  ·obtain ⟨i, hi, rfl⟩ := List.getElem_of_mem hy
   have hi' : i < m.length := by simpa using hi
   rw [List.getElem_set]
   by_cases hij : j = i
   ·subst hij; rw [if_pos rfl]; simp [List.count_append]
   ·rw [if_neg hij, h.cnt _ (List.getElem_mem hi'), List.count_append, List.count_singleton, if_neg (by simpa using fun e => hne i hi' (Ne.symm hij) e.symm)]; simp
  ·have : (m.set j (n, (s.count n : Int) + 1)).map (·.1) = m.map (·.1) := by
    rw [List.map_set]
    refine List.ext_getElem (by simp) fun i h1 h2 => ?_
    rw [List.getElem_set]
    by_cases hij : j = i
    ·subst hij; simp [hp]
    ·rw [if_neg hij]
   rw [this]; exact h.nod
  ·simp only [List.mem_append, List.mem_singleton] at hk
   have key : ∀ y ∈ m, ∃ z ∈ m.set j (n, (s.count n : Int) + 1), z.1 = y.1 := fun y hy => by
    obtain ⟨i, hi, rfl⟩ := List.getElem_of_mem hy
    refine ⟨(m.set j (n, (s.count n : Int) + 1))[i]'(by simpa), List.getElem_mem _, ?_⟩
    rw [List.getElem_set]
    by_cases hij : j = i
    ·subst hij; simp [hp]
    ·rw [if_neg hij]
   rcases hk with hk | rfl
   ·obtain ⟨y, hy, e⟩ := h.all k hk; obtain ⟨z, hz, e2⟩ := key y hy; exact ⟨z, hz, e2.trans e⟩
   ·obtain ⟨z, hz, e2⟩ := key m[j] (List.getElem_mem _); exact ⟨z, hz, e2.trans hp⟩
theorem minv_any {m : List (Int × Int)} {s : List Int} (h : MInv m s) : (m.any fun y => cond (decide (y.2 > 1)) true false) = !decide s.Nodup := by
 rw [Bool.eq_iff_iff]
 simp only [List.any_eq_true, Bool.not_eq_true', decide_eq_false_iff_not]
 constructor
 ·rintro ⟨y, hy, h1⟩ hn
  have h2 : y.2 > 1 := by cases hd : decide (y.2 > 1) with
   | true => simpa using hd
   | false => rw [hd] at h1; cases h1
  rw [h.cnt y hy] at h2
  have := List.nodup_iff_count.1 hn y.1
  omega
 ·intro hn
  rw [List.nodup_iff_count] at hn
  obtain ⟨n, hn⟩ := Classical.not_forall.1 hn
  have hm : n ∈ s := List.count_pos_iff.1 (by omega)
  obtain ⟨y, hy, rfl⟩ := h.all n hm
  refine ⟨y, hy, ?_⟩
  have : y.2 > 1 := by rw [h.cnt y hy]; omega
  simp [this]
theorem snd_eq {α : Type} (v : α → Bool) (sl : α → Int) : ∀ (l : List α) (last : Int) (m : IM), (snd v sl last l m).1 = chain v sl (some last) l ∧ (chain v sl (some last) l = true → (snd v sl last l m).2 = l.foldl (fun m x => bump (sl x) m) m)
 | [], last, m => by simp [snd, chain]
 | x :: l, last, m => by
  simp only [snd, chain, prevOk_some]
  have ih := snd_eq v sl l (sl x) (bump (sl x) m)
  by_cases hv : v x = true
  ·by_cases hl : last < sl x
   ·have h2 : decide (sl x ≤ last) = false := by simp; omega
    simp only [hv, h2, hl, decide_true, Bool.not_false, Bool.and_self, Bool.true_and, if_true, List.foldl_cons]
    exact ih
   ·have h2 : decide (sl x ≤ last) = true := by simp; omega
    simp [h2, hl]
  ·simp [hv]
theorem minv_fold {α : Type} (sl : α → Int) : ∀ (l : List α) (m : IM) (s : List Int), MInv m s → s.length + l.length ≤ 1000000000 → MInv (l.foldl (fun m x => bump (sl x) m) m) (s ++ l.map sl)
 | [], m, s, h, _ => by simpa using h
 | x :: l, m, s, h, hl => by
  simp only [List.foldl_cons, List.map_cons]
  have := minv_fold sl l _ _ (minv_bump h (sl x) (by simp at hl; omega)) (by simp at hl ⊢; omega)
  simpa using this
theorem isUse_rng {u : Use} {l : Layout} (h : isUse u l = true) : 0 ≤ u.cell.slot ∧ u.cell.slot < l.data := by
 simp only [isUse, placed, Bool.and_eq_true, decide_eq_true_eq] at h; omega
theorem isGrant_rng {u : Grant} {l : Layout} (h : isGrant u l = true) : 0 ≤ u.cell.slot ∧ u.cell.slot < l.data := by
 simp only [isGrant, placed, Bool.and_eq_true, decide_eq_true_eq] at h; omega
theorem isAsk_rng {u : Ask} {l : Layout} (h : isAsk u l = true) : 0 ≤ u.cell.slot ∧ u.cell.slot < l.data := by
 simp only [isAsk, placed, Bool.and_eq_true, decide_eq_true_eq] at h; omega
theorem kEntU_eq (l : List Use) (h : l.length ≤ 1100000) : kEntU l (fun y => some y) = some l := by
 have key : ∀ (l acc : List Use), acc.length + l.length ≤ 1100000 → kEntU_L1 (fun y => some y) l acc = some (acc ++ l) := by
  intro l
  induction l with
  | nil => intro acc _; simp [kEntU_L1]
  | cons x l ih =>
   intro acc ha
   simp only [List.length_cons] at ha
   have : decide (acc.length + 1 ≤ 4294967296) = true := by simp; omega
   simp only [kEntU_L1, Option.bind_some, this, cond_true]
   rw [ih _ (by simp; omega)]; simp
 simp only [kEntU, key l [] (by simpa using h), List.nil_append, Option.bind_some]
theorem kEntG_eq (l : List Grant) (h : l.length ≤ 1100000) : kEntG l (fun y => some y) = some l := by
 have key : ∀ (l acc : List Grant), acc.length + l.length ≤ 1100000 → kEntG_L1 (fun y => some y) l acc = some (acc ++ l) := by
  intro l
  induction l with
  | nil => intro acc _; simp [kEntG_L1]
  | cons x l ih =>
   intro acc ha
   simp only [List.length_cons] at ha
   have : decide (acc.length + 1 ≤ 4294967296) = true := by simp; omega
   simp only [kEntG_L1, Option.bind_some, this, cond_true]
   rw [ih _ (by simp; omega)]; simp
 simp only [kEntG, key l [] (by simpa using h), List.nil_append, Option.bind_some]
theorem kEntA_eq (l : List Ask) (h : l.length ≤ 1100000) : kEntA l (fun y => some y) = some l := by
 have key : ∀ (l acc : List Ask), acc.length + l.length ≤ 1100000 → kEntA_L1 (fun y => some y) l acc = some (acc ++ l) := by
  intro l
  induction l with
  | nil => intro acc _; simp [kEntA_L1]
  | cons x l ih =>
   intro acc ha
   simp only [List.length_cons] at ha
   have : decide (acc.length + 1 ≤ 4294967296) = true := by simp; omega
   simp only [kEntA_L1, Option.bind_some, this, cond_true]
   rw [ih _ (by simp; omega)]; simp
 simp only [kEntA, key l [] (by simpa using h), List.nil_append, Option.bind_some]
theorem kCellsValid_eq (t : Table) (l : Layout) (hu : t.uses.length ≤ 1100000) (hg : t.grants.length ≤ 1100000) (ha : t.asks.length ≤ 1100000) : kCellsValid t l = some (validT l t) := by
 unfold kCellsValid
 rw [wr (by omega) (by omega)]
 by_cases h0 : (1 ≤ l.nodes ∧ l.nodes ≤ 60 ∧ 1 ≤ l.data ∧ l.data ≤ 60) ∧ t.uses.length + t.grants.length ≤ 24 ∧ t.asks.length ≤ 24
 case neg =>
  have hn : validT l t = false := by
   rw [Bool.eq_false_iff]; intro hv; rw [validT_iff] at hv
   exact h0 ⟨⟨hv.n1, hv.n2, hv.d1, hv.d2⟩, hv.len, hv.alen⟩
  rw [hn]
  have : ((decide (l.nodes < 1)) || ((decide (l.nodes > 60)) || ((decide (l.data < 1)) || ((decide (l.data > 60)) || ((decide ((t.uses.length : Int) + (t.grants.length : Int) > 24)) || (decide ((t.asks.length : Int) > 24))))))) = true := by
   rw [← Bool.not_eq_false]; intro hc; apply h0
   simp only [Bool.or_eq_false_iff, decide_eq_false_iff_not] at hc
   omega
  rw [this]; rfl
 case pos =>
  obtain ⟨⟨n1, n2, d1, d2⟩, len, alen⟩ := h0
  have : ((decide (l.nodes < 1)) || ((decide (l.nodes > 60)) || ((decide (l.data < 1)) || ((decide (l.data > 60)) || ((decide ((t.uses.length : Int) + (t.grants.length : Int) > 24)) || (decide ((t.asks.length : Int) > 24))))))) = false := by
   simp only [Bool.or_eq_false_iff, decide_eq_false_iff_not]
   omega
  rw [this]
  simp only [kUseEntry, kGrantEntry, kAskEntry, kEntU_eq _ hu, kEntG_eq _ hg, kEntA_eq _ ha, cond_false, Option.bind_some]
  have dU : ∀ n : Nat, n ≤ 1100000 → decide ((-9223372036854775808 < l.nodes ∧ l.nodes ≤ 9223372036854775807) ∧ (-9223372036854775808 < l.data ∧ l.data ≤ 9223372036854775807) ∧ n ≤ 4000000) = true := fun n hn => by simp; omega
  rw [dU _ hu, dU _ hg, dU _ ha]
  simp only [cond_true]
  have key : ∀ b : Bool, (b = true ↔ ((∀ x ∈ t.uses, isUse x l = true) ∧ (∀ x ∈ t.grants, isGrant x l = true) ∧ (∀ x ∈ t.asks, isAsk x l = true)) ∧ (t.uses.Pairwise (fun x y => x.cell.slot < y.cell.slot) ∧ t.grants.Pairwise (fun x y => x.cell.slot < y.cell.slot) ∧ t.asks.Pairwise (fun x y => x.cell.slot < y.cell.slot)) ∧ (t.uses.map (·.cell.slot) ++ t.grants.map (·.cell.slot) ++ t.asks.map (·.cell.slot)).Nodup) → some b = some (validT l t) := fun b hb => by
   congr 1
   rw [Bool.eq_iff_iff, hb, validT_iff]
   constructor
   ·rintro ⟨⟨q1, q2, q3⟩, ⟨q4, q5, q6⟩, q7⟩; exact ⟨n1, n2, d1, d2, len, alen, q1, q2, q3, q4, q5, q6, q7⟩
   ·intro q; exact ⟨⟨q.u, q.g, q.a⟩, ⟨q.us, q.gs, q.ac⟩, q.one⟩
  have c1 : chain (fun x => isUse x l) (fun x => x.cell.slot) (some (-1)) t.uses = true ↔ (∀ x ∈ t.uses, isUse x l = true) ∧ t.uses.Pairwise (fun x y => x.cell.slot < y.cell.slot) := by
   rw [chain_some]; exact ⟨fun ⟨a, _, c⟩ => ⟨a, c⟩, fun ⟨a, c⟩ => ⟨a, fun x hx => by have := isUse_rng (a x hx); omega, c⟩⟩
  have c2 : chain (fun x => isGrant x l) (fun x => x.cell.slot) (some (-1)) t.grants = true ↔ (∀ x ∈ t.grants, isGrant x l = true) ∧ t.grants.Pairwise (fun x y => x.cell.slot < y.cell.slot) := by
   rw [chain_some]; exact ⟨fun ⟨a, _, c⟩ => ⟨a, c⟩, fun ⟨a, c⟩ => ⟨a, fun x hx => by have := isGrant_rng (a x hx); omega, c⟩⟩
  have c3 : chain (fun x => isAsk x l) (fun x => x.cell.slot) (some (-1)) t.asks = true ↔ (∀ x ∈ t.asks, isAsk x l = true) ∧ t.asks.Pairwise (fun x y => x.cell.slot < y.cell.slot) := by
   rw [chain_some]; exact ⟨fun ⟨a, _, c⟩ => ⟨a, c⟩, fun ⟨a, c⟩ => ⟨a, fun x hx => by have := isAsk_rng (a x hx); omega, c⟩⟩
  obtain ⟨s1, r1⟩ := snd_eq (fun x => isUse x l) (fun x => x.cell.slot) t.uses (-1) []
  rw [s1]
  cases hc1 : chain (fun x => isUse x l) (fun x => x.cell.slot) (some (-1)) t.uses
  case false =>
   have hc := Bool.eq_false_iff.1 hc1
   rw [ne_eq] at hc
   rw [c1] at hc
   simp only [cond_false, Option.bind_some, cond_true]
   exact key false ⟨fun h => (by cases h), fun ⟨⟨q1, _⟩, ⟨q2, _⟩, _⟩ => absurd ⟨q1, q2⟩ hc⟩
  case true =>
  rw [r1 hc1]
  simp only [cond_true]
  have i1 := minv_fold (fun x : Use => x.cell.slot) t.uses [] [] minv_nil (by simp; omega)
  generalize List.foldl (fun m (x : Use) => bump x.cell.slot m) [] t.uses = m1 at i1 ⊢
  obtain ⟨s2, r2⟩ := snd_eq (fun x => isGrant x l) (fun x => x.cell.slot) t.grants (-1) m1
  rw [s2]
  cases hc2 : chain (fun x => isGrant x l) (fun x => x.cell.slot) (some (-1)) t.grants
  case false =>
   have hc := Bool.eq_false_iff.1 hc2
   rw [ne_eq] at hc
   rw [c2] at hc
   simp only [cond_false, Option.bind_some, cond_true]
   exact key false ⟨fun h => (by cases h), fun ⟨⟨_, q1, _⟩, ⟨_, q2, _⟩, _⟩ => absurd ⟨q1, q2⟩ hc⟩
  case true =>
  rw [r2 hc2]
  simp only [cond_true]
  have i2 := minv_fold (fun x : Grant => x.cell.slot) t.grants _ _ i1 (by simp; omega)
  generalize List.foldl (fun m (x : Grant) => bump x.cell.slot m) m1 t.grants = m2 at i2 ⊢
  obtain ⟨s3, r3⟩ := snd_eq (fun x => isAsk x l) (fun x => x.cell.slot) t.asks (-1) m2
  rw [s3]
  cases hc3 : chain (fun x => isAsk x l) (fun x => x.cell.slot) (some (-1)) t.asks
  case false =>
   have hc := Bool.eq_false_iff.1 hc3
   rw [ne_eq] at hc
   rw [c3] at hc
   simp only [Bool.not_false, Option.bind_some, cond_true]
   exact key false ⟨fun h => (by cases h), fun ⟨⟨_, _, q1⟩, ⟨_, _, q2⟩, _⟩ => absurd ⟨q1, q2⟩ hc⟩
  case true =>
  rw [r3 hc3]
  have i3 := minv_fold (fun x : Ask => x.cell.slot) t.asks _ _ i2 (by simp; omega)
  generalize List.foldl (fun m (x : Ask) => bump x.cell.slot m) m2 t.asks = m3 at i3 ⊢
  simp only [Bool.not_true, Option.bind_some, cond_false]
  rw [minv_any i3]
  rw [c1] at hc1; rw [c2] at hc2; rw [c3] at hc3
  simp only [List.nil_append] at *
  cases hq : decide (t.uses.map (fun x => x.cell.slot) ++ t.grants.map (fun x => x.cell.slot) ++ t.asks.map (fun x => x.cell.slot)).Nodup with
  | true =>
   rw [decide_eq_true_eq] at hq
   exact key true ⟨fun _ => ⟨⟨hc1.1, hc2.1, hc3.1⟩, ⟨hc1.2, hc2.2, hc3.2⟩, hq⟩, fun _ => rfl⟩
  | false =>
   rw [decide_eq_false_iff_not] at hq
   exact key false ⟨fun h => (by cases h), fun ⟨_, _, q⟩ => absurd q hq⟩
end Go.VM.Tryz
namespace Go.VM.Tryz
theorem cellEq_iff {a b : Cell} : cellEq a b = true ↔ a = b := by
 cases a; cases b; simp [cellEq]
theorem cellEq_comm (a b : Cell) : cellEq a b = cellEq b a := by
 rw [Bool.eq_iff_iff, cellEq_iff, cellEq_iff]; exact eq_comm
def nearOk1 (l : Layout) (me frame : Int) (n : Near) : Bool := (decide (0 ≤ n.src) && decide (n.src < l.nodes)) && (n.src != me && (decide (0 ≤ n.frame) && decide (n.frame ≤ frame)))
def nearOk (l : Layout) (me : Int) (near : List Near) (frame : Int) : Bool := chain (nearOk1 l me frame) (fun n => n.src) none near
noncomputable def validA (l : Layout) (t : Table) (me : Int) (near : List Near) (frame : Int) : Bool := validT l t && ((decide (0 ≤ me) && decide (me < l.nodes)) && ((decide (0 ≤ frame) && decide (frame ≤ 999999992)) && nearOk l me near frame))
def cleanN (l : Layout) (n : Near) : Near := ⟨n.frame, n.src, ⟨n.t.uses.filter (isUse · l), n.t.grants.filter (isGrant · l), n.t.asks.filter (isAsk · l)⟩, noRest⟩
theorem prev_eq {near pre post : List Near} {x : Near} (h : near = pre ++ x :: post) (hs : near.length ≤ 1100000) {β : Type} (f : Option Int → β) (g : Int → Option β) (d : β) (h0 : f none = d) (h1 : ∀ y : Near, g y.src = some (f (some y.src))) :
  (cond (decide ((pre.length : Int) > 0)) (Option.bind (elt near (IntKind.i64.wrap ((pre.length : Int) - 1))) fun v => g v.src) (some d)) = some (f (pre.getLast?.map fun n => n.src)) := by
 have hlen := congrArg List.length h
 simp only [List.length_append, List.length_cons] at hlen
 rcases List.eq_nil_or_concat pre with rfl | ⟨q, y, rfl⟩
 ·simp [h0]
 ·have hw : IntKind.i64.wrap (((q.concat y).length : Int) - 1) = (q.length : Int) := by
   rw [wr] <;> simp at hlen ⊢ <;> omega
  rw [hw, elt_nat, h]
  have h1' : decide (((q.concat y).length : Int) > 0) = true := by simp
  simp only [h1', cond_true]
  simp only [List.concat_eq_append, List.append_assoc, List.cons_append, List.nil_append, List.getElem?_append_right (Nat.le_refl _), Nat.sub_self, List.getElem?_cons_zero, Option.bind_some, List.getLast?_append, List.getLast?_singleton, Option.some_or, Option.map_some]
  exact h1 y
def Few (near : List Near) : Prop := near.length ≤ 70 ∧ ∀ n ∈ near, n.t.uses.length ≤ 40 ∧ n.t.grants.length ≤ 40 ∧ n.t.asks.length ≤ 40
theorem kIsCell_eq (p : Use → Bool) (l : List Use) (h : l.length ≤ 1100000) : kIsCell l (fun y => some (p y)) = some (l.filter p) := by
 have key : ∀ (l acc : List Use), acc.length + l.length ≤ 1100000 → kIsCell_L1 (fun y => some (p y)) l acc = some (acc ++ l.filter p) := by
  intro l
  induction l with
  | nil => intro acc _; simp [kIsCell_L1]
  | cons x l ih =>
   intro acc ha
   simp only [List.length_cons] at ha
   have : decide (acc.length + 1 ≤ 4294967296) = true := by simp; omega
   simp only [kIsCell_L1, Option.bind_some, this, cond_true]
   cases hp : p x with
   | true => simp only [cond_true, Option.bind_some]; rw [ih _ (by simp; omega)]; simp [hp]
   | false => simp only [cond_false, Option.bind_some]; rw [ih _ (by omega)]; simp [hp]
 simp only [kIsCell, key l [] (by simpa using h), List.nil_append, Option.bind_some]
theorem f77_eq (p : Grant → Bool) (l : List Grant) (h : l.length ≤ 1100000) : f77 l (fun y => some (p y)) = some (l.filter p) := by
 have key : ∀ (l acc : List Grant), acc.length + l.length ≤ 1100000 → f77_L1 (fun y => some (p y)) l acc = some (acc ++ l.filter p) := by
  intro l
  induction l with
  | nil => intro acc _; simp [f77_L1]
  | cons x l ih =>
   intro acc ha
   simp only [List.length_cons] at ha
   have : decide (acc.length + 1 ≤ 4294967296) = true := by simp; omega
   simp only [f77_L1, Option.bind_some, this, cond_true]
   cases hp : p x with
   | true => simp only [cond_true, Option.bind_some]; rw [ih _ (by simp; omega)]; simp [hp]
   | false => simp only [cond_false, Option.bind_some]; rw [ih _ (by omega)]; simp [hp]
 simp only [f77, key l [] (by simpa using h), List.nil_append, Option.bind_some]
theorem f81_eq {l : Layout} (h1 : 1 ≤ l.nodes) (h2 : l.nodes ≤ 60) (h3 : 1 ≤ l.data) (h4 : l.data ≤ 60) (c : Cell) (p : Int) : f81 l c p = placed c p l := by
 unfold f81 kWithin placed
 rw [wr (by omega) (by omega), wr (by omega) (by omega), Bool.eq_iff_iff]
 simp only [Bool.and_eq_true, decide_eq_true_eq]
 omega
theorem f75_eq {l : Layout} (h1 : 1 ≤ l.nodes) (h2 : l.nodes ≤ 60) (h3 : 1 ≤ l.data) (h4 : l.data ≤ 60) (u : Use) : f75 u l = isUse u l := by
 unfold f75 f76 isUse; rw [f81_eq h1 h2 h3 h4]; rfl
theorem f78_eq {l : Layout} (h1 : 1 ≤ l.nodes) (h2 : l.nodes ≤ 60) (h3 : 1 ≤ l.data) (h4 : l.data ≤ 60) (u : Grant) : f78 u l = isGrant u l := by
 unfold f78 f79 isGrant kWithin; rw [f81_eq h1 h2 h3 h4]
 cases placed u.cell u.peer l with
 | false => rfl
 | true =>
  rw [Bool.eq_iff_iff]
  simp only [Bool.and_eq_true, decide_eq_true_eq, true_and]
  omega
theorem f80_eq {l : Layout} (h1 : 1 ≤ l.nodes) (h2 : l.nodes ≤ 60) (h3 : 1 ≤ l.data) (h4 : l.data ≤ 60) (u : Ask) : f80 u l = isAsk u l := by
 unfold f80 isAsk; rw [f81_eq h1 h2 h3 h4]
theorem kNewSide_L1_eq {l : Layout} {me frame : Int} {near : List Near} (h1 : 1 ≤ l.nodes) (h2 : l.nodes ≤ 60) (h3 : 1 ≤ l.data) (h4 : l.data ≤ 60) (hs : Few near) : ∀ (post pre : List Near), near = pre ++ post →
  kNewSide_L1 l me near frame post pre.length (pre.map (cleanN l)) = some (cond (chain (nearOk1 l me frame) (fun n => n.src) (pre.getLast?.map fun n => n.src) post) (.inl (near.map (cleanN l))) (.inr (none, false)))
 | [], pre, h => by simp [chain, kNewSide_L1, h]
 | x :: post, pre, h => by
  have hx := hs.2 x (by simp [h])
  have hlen := congrArg List.length h
  simp only [List.length_append, List.length_cons] at hlen
  have hl := hs.1
  have ih := kNewSide_L1_eq h1 h2 h3 h4 hs (me := me) (frame := frame) post (pre ++ [x]) (by simp [h])
  simp only [List.getLast?_append, List.getLast?_singleton, Option.some_or, Option.map_some, List.map_append, List.map_cons, List.map_nil] at ih
  have e1 : ((pre ++ [x]).length : Int) = (pre.length : Int) + 1 := by simp
  rw [e1] at ih
  simp only [kNewSide_L1, chain]
  rw [prev_eq h (by omega) (fun o => cond (!prevOk o x.src) true (!(kWithin x.frame frame))) (fun k => cond (decide (x.src ≤ k)) (some true) (some (!(kWithin x.frame frame)))) (!(kWithin x.frame frame)) rfl (fun y => by
   by_cases h : y.src < x.src
   ·have : ¬ x.src ≤ y.src := by omega
    simp [h, this]
   ·have : x.src ≤ y.src := by omega
    simp [h, this])]
  rw [wr (by omega) (by omega)]
  have e2 : kIsCell x.t.uses (fun y0 => some (f75 y0 ⟨l.nodes, l.data⟩)) = some (x.t.uses.filter (isUse · l)) := by
   rw [show (fun y0 => some (f75 y0 ⟨l.nodes, l.data⟩)) = fun y0 => some (isUse y0 l) from funext fun y => congrArg some (f75_eq h1 h2 h3 h4 y)]
   exact kIsCell_eq _ _ (by omega)
  have e3 : f77 x.t.grants (fun y0 => some (f78 y0 ⟨l.nodes, l.data⟩)) = some (x.t.grants.filter (isGrant · l)) := by
   rw [show (fun y0 => some (f78 y0 ⟨l.nodes, l.data⟩)) = fun y0 => some (isGrant y0 l) from funext fun y => congrArg some (f78_eq h1 h2 h3 h4 y)]
   exact f77_eq _ _ (by omega)
  have e4 : (fun a => (some (f80 a ⟨l.nodes, l.data⟩)).getD false) = (isAsk · l) := funext fun y => f80_eq h1 h2 h3 h4 y
  have e5 : decide ((x.t.asks.all fun a => (some (f80 a ⟨l.nodes, l.data⟩)).isSome) = true ∧ x.t.asks.length ≤ 4000000) = true := by simp; omega
  have e6 : decide ((pre.map (cleanN l)).length + 1 ≤ 4294967296) = true := by simp; omega
  rw [e2, e3, e4, e5, e6]
  simp only [Option.bind_some, cond_true]
  have e7 : (cond (kWithin x.src (l.nodes - 1)) (cond (x.src == me) (some true) (some (cond (!prevOk (pre.getLast?.map fun n => n.src) x.src) true (!(kWithin x.frame frame))))) (some true)) =
    some (!(nearOk1 l me frame x && prevOk (pre.getLast?.map fun n => n.src) x.src)) := by
   have ek : kWithin x.src (l.nodes - 1) = (decide (0 ≤ x.src) && decide (x.src < l.nodes)) := by
    rw [Bool.eq_iff_iff]; simp only [kWithin, Bool.and_eq_true, decide_eq_true_eq]; omega
   rw [ek]
   unfold nearOk1
   cases (decide (0 ≤ x.src) && decide (x.src < l.nodes)) with
   | false => rfl
   | true =>
    cases hm : x.src == me with
    | true => simp [bne, hm]
    | false =>
     simp only [bne, hm, Bool.not_false, Bool.true_and, cond_true, cond_false]
     cases prevOk (pre.getLast?.map fun n => n.src) x.src with
     | false => simp
     | true => simp [kWithin]
  rw [e7]
  cases nearOk1 l me frame x with
  | false => rfl
  | true =>
   simp only [Bool.true_and, Option.bind_some]
   cases prevOk (pre.getLast?.map fun n => n.src) x.src with
   | false => rfl
   | true =>
    simp only [Bool.not_true, cond_false, Bool.true_and]
    exact ih
def sideOf (l : Layout) (me : Int) (near : List Near) (frame : Int) : Side := ⟨l, me, near.map (cleanN l), frame⟩
theorem kNewSide_eq (l : Layout) (t : Table) (me : Int) (near : List Near) (frame : Int) (hu : t.uses.length ≤ 1100000) (hg : t.grants.length ≤ 1100000) (ha : t.asks.length ≤ 1100000) (hs : Few near) :
  kNewSide l t me near frame = some (cond (validA l t me near frame) (some (sideOf l me near frame), true) (none, false)) := by
 unfold kNewSide validA
 rw [kCellsValid_eq t l hu hg ha]
 simp only [Option.bind_some]
 cases hv : validT l t with
 | false => rfl
 | true =>
  have hv := validT_iff.1 hv
  have h1 := hv.n1; have h2 := hv.n2; have h3 := hv.d1; have h4 := hv.d2
  rw [wr (by omega) (by omega)]
  have ek : kWithin me (l.nodes - 1) = (decide (0 ≤ me) && decide (me < l.nodes)) := by
   rw [Bool.eq_iff_iff]; simp only [kWithin, Bool.and_eq_true, decide_eq_true_eq]; omega
  rw [ek]
  simp only [cond_true, Bool.true_and]
  cases (decide (0 ≤ me) && decide (me < l.nodes)) with
  | false => rfl
  | true =>
   have ef : kWithin frame 999999992 = (decide (0 ≤ frame) && decide (frame ≤ 999999992)) := rfl
   rw [ef]
   simp only [cond_true, Bool.true_and, Option.bind_some]
   cases (decide (0 ≤ frame) && decide (frame ≤ 999999992)) with
   | false => rfl
   | true =>
    have h := kNewSide_L1_eq (me := me) (frame := frame) h1 h2 h3 h4 hs near [] rfl
    simp only [List.getLast?_nil, Option.map_none, List.map_nil, List.length_nil, Int.natCast_zero] at h
    have h : kNewSide_L1 l me near frame near 0 [] = _ := h
    rw [h]
    simp only [Bool.not_true, cond_false, Option.bind_some, Bool.true_and]
    unfold nearOk
    cases chain (nearOk1 l me frame) (fun n => n.src) none near <;> rfl
end Go.VM.Tryz
namespace Go.VM.Tryz
theorem f82_L1_eq (p : Near → Bool) : ∀ (l : List Near) (i : Int), f82_L1 (fun y => some (p y)) l i = some (match l.findIdx? p with | some k => .inr (i + k) | none => .inl ())
 | [], i => by simp [f82_L1]
 | x :: l, i => by
  simp only [f82_L1, Option.bind_some, List.findIdx?_cons, f82_L1_eq p l]
  cases p x with
  | true => simp
  | false =>
   simp only [cond_false, Bool.false_eq_true, if_false]
   cases l.findIdx? p with
   | none => rfl
   | some k => simp only [Option.map_some, Int.natCast_add, Int.natCast_one]; congr 2; omega
theorem f82_eq (p : Near → Bool) (l : List Near) : f82 l (fun y => some (p y)) = some (idx p l) := by
 unfold f82 idx
 rw [f82_L1_eq]
 cases l.findIdx? p <;> simp
theorem f54_L1_eq (p : Grant → Bool) : ∀ (l : List Grant) (i : Int), f54_L1 (fun y => some (p y)) l i = some (match l.findIdx? p with | some k => .inr (i + k) | none => .inl ())
 | [], i => by simp [f54_L1]
 | x :: l, i => by
  simp only [f54_L1, Option.bind_some, List.findIdx?_cons, f54_L1_eq p l]
  cases p x with
  | true => simp
  | false =>
   simp only [cond_false, Bool.false_eq_true, if_false]
   cases l.findIdx? p with
   | none => rfl
   | some k => simp only [Option.map_some, Int.natCast_add, Int.natCast_one]; congr 2; omega
theorem f54_eq (p : Grant → Bool) (l : List Grant) : f54 l (fun y => some (p y)) = some (idx p l) := by
 unfold f54 idx
 rw [f54_L1_eq]
 cases l.findIdx? p <;> simp
theorem f133_L1_eq (p : Use → Bool) : ∀ (l : List Use) (i : Int), f133_L1 (fun y => some (p y)) l i = some (match l.findIdx? p with | some k => .inr (i + k) | none => .inl ())
 | [], i => by simp [f133_L1]
 | x :: l, i => by
  simp only [f133_L1, Option.bind_some, List.findIdx?_cons, f133_L1_eq p l]
  cases p x with
  | true => simp
  | false =>
   simp only [cond_false, Bool.false_eq_true, if_false]
   cases l.findIdx? p with
   | none => rfl
   | some k => simp only [Option.map_some, Int.natCast_add, Int.natCast_one]; congr 2; omega
theorem f133_eq (p : Use → Bool) (l : List Use) : f133 l (fun y => some (p y)) = some (idx p l) := by
 unfold f133 idx
 rw [f133_L1_eq]
 cases l.findIdx? p <;> simp
theorem f90_L1_eq (p : Ask → Bool) : ∀ (l : List Ask) (i : Int), f90_L1 (fun y => some (p y)) l i = some (match l.findIdx? p with | some k => .inr (i + k) | none => .inl ())
 | [], i => by simp [f90_L1]
 | x :: l, i => by
  simp only [f90_L1, Option.bind_some, List.findIdx?_cons, f90_L1_eq p l]
  cases p x with
  | true => simp
  | false =>
   simp only [cond_false, Bool.false_eq_true, if_false]
   cases l.findIdx? p with
   | none => rfl
   | some k => simp only [Option.map_some, Int.natCast_add, Int.natCast_one]; congr 2; omega
theorem f90_eq (p : Ask → Bool) (l : List Ask) : f90 l (fun y => some (p y)) = some (idx p l) := by
 unfold f90 idx
 rw [f90_L1_eq]
 cases l.findIdx? p <;> simp
theorem f98_eq (p : Use → Bool) (l : List Use) : f98 l (fun y => some (p y)) = some (l.any p) := by simp [f98, f133_eq, idx_any]
theorem f87_eq (p : Grant → Bool) (l : List Grant) : f87 l (fun y => some (p y)) = some (l.any p) := by simp [f87, f54_eq, idx_any]
theorem f85_eq (p : Near → Bool) (l : List Near) : f85 l (fun y => some (p y)) = some (l.any p) := by simp [f85, f82_eq, idx_any]
theorem f43_eq (p : Ask → Bool) (l : List Ask) : f43 l (fun y => some (p y)) = some (l.any p) := by simp [f43, f90_eq, idx_any]
def findN (near : List Near) (k : Int) : Option Near := near.find? fun n => n.src == k
def zeroN : Near := ⟨0, 0, ⟨[], [], []⟩, noRest⟩
theorem find_elt {p : Near → Bool} {l : List Near} : (match l.find? p with | none => decide (idx p l < 0) = true | some x => decide (idx p l < 0) = false ∧ elt l (idx p l) = some x) := by
 by_cases h : idx p l < 0
 ·rw [find_idx.1 h]; simpa using h
 ·obtain ⟨x, h1, h2⟩ := find_idx.2 h
  rw [h2]
  have h0 : 0 ≤ idx p l := by omega
  exact ⟨by simpa using h, by simp [elt, h0, h1]⟩
theorem kBFind_eq (s : Side) (k : Int) : kBFind s k = some (match findN s.near k with | some n => (n, true) | none => (zeroN, false)) := by
 unfold kBFind findN
 rw [show (fun y0 => some (f83 y0 k)) = fun y0 : Near => some (y0.src == k) from rfl, f82_eq]
 have h := find_elt (p := fun n => n.src == k) (l := s.near)
 simp only [Option.bind_some]
 cases hf : s.near.find? fun n => n.src == k with
 | none => rw [hf] at h; simp only [h, cond_true]; rfl
 | some x => rw [hf] at h; simp only [h.1, h.2, cond_false, Option.bind_some]
theorem findN_clean (l : Layout) (near : List Near) (k : Int) : findN (near.map (cleanN l)) k = (findN near k).map (cleanN l) := by
 unfold findN; rw [List.find?_map]; rfl
def inSlot (l : Layout) (n : Near) (slot : Int) : Bool := n.t.uses.any (fun u => isUse u l && u.cell.slot == slot) || n.t.grants.any (fun g => isGrant g l && g.cell.slot == slot)
def foreign (l : Layout) (near : List Near) (c : Cell) (me : Int) : Bool := near.any fun n => n.t.grants.any fun g => isGrant g l && (cellEq g.cell c && g.peer != me)
def usesC (l : Layout) (n : Near) (c : Cell) (peer : Int) : Bool := n.t.uses.any fun u => isUse u l && (cellEq u.cell c && (decide (peer < 0) || u.peer == peer))
def asksC (l : Layout) (n : Near) (c : Cell) (peer : Int) : Bool := n.t.asks.any fun a => isAsk a l && (cellEq a.cell c && a.peer == peer)
def usedC (l : Layout) (near : List Near) (c : Cell) (but : Int) : Bool := near.any fun n => usesC l n c (-1) && n.src != but
theorem kCBusy_eq (t : Table) (s : Int) : kCBusy t s = some (busy t s) := by
 unfold kCBusy
 rw [show (fun y0 => some (f119 y0 s)) = fun y0 : Use => some (y0.cell.slot == s) from rfl, show (fun y0 => some (f120 y0 s)) = fun y0 : Grant => some (y0.cell.slot == s) from rfl, f98_eq, f87_eq]
 unfold busy
 cases t.uses.any fun u => u.cell.slot == s <;> simp
theorem busy_clean (l : Layout) (n : Near) (s : Int) : busy ⟨(cleanN l n).t.uses, (cleanN l n).t.grants, []⟩ s = inSlot l n s := by
 simp only [busy, inSlot, cleanN, List.any_filter]
theorem any_clean (l : Layout) (near : List Near) (c : Cell) (me : Int) : ((near.map (cleanN l)).any fun n => n.t.grants.any fun g => cellEq g.cell c && g.peer != me) = foreign l near c me := by
 simp only [foreign, List.any_map, Function.comp_def, cleanN, List.any_filter]
def possible (l : Layout) (t : Table) (me : Int) (near : List Near) (peer : Int) (c : Cell) : Bool := match findN near peer with
 | some n => !(busy t c.slot || inSlot l n c.slot) && !foreign l near c me
 | none => false
theorem kBPossible_eq (l : Layout) (t : Table) (me : Int) (near : List Near) (frame : Int) (n : Near) (c : Cell) : kBPossible (sideOf l me near frame) ⟨t.uses, t.grants, []⟩ (cleanN l n) c = some (!(busy t c.slot || inSlot l n c.slot) && !foreign l near c me) := by
 unfold kBPossible
 rw [kCBusy_eq, kCBusy_eq, busy_clean, show (fun y0 => f86 y0 ⟨c.slot, c.offset⟩ (sideOf l me near frame)) = fun n : Near => some (n.t.grants.any fun g => cellEq g.cell c && g.peer != me) from funext fun n => by
  unfold f86
  rw [show (fun y0 => some (f88 y0 ⟨c.slot, c.offset⟩ (sideOf l me near frame))) = fun g : Grant => some (cellEq g.cell c && g.peer != me) from rfl, f87_eq]; rfl, f85_eq]
 rw [show (sideOf l me near frame).near = near.map (cleanN l) from rfl, any_clean, show busy ⟨t.uses, t.grants, []⟩ c.slot = busy t c.slot from rfl]
 cases busy t c.slot <;> cases inSlot l n c.slot <;> rfl
end Go.VM.Tryz
namespace Go.VM.Tryz
open Go.Sort
theorem swoK {α : Type} (sl : α → Int) : SWO (fun a b : α => decide (sl a < sl b)) where
 irrefl x := by simp
 trans x y z h1 h2 := by simp at *; omega
 ntrans x y z h1 h2 := by simp at *; omega
theorem up_sort {α : Type} {sl : α → Int} {l : List α} (hl : l.Pairwise fun x y => sl x ≠ sl y) : (sortS (fun a b => decide (sl a < sl b)) l).Pairwise fun x y => sl x < sl y := by
 have h1 := sortS_sorted (swoK sl) l
 have h2 : (sortS (fun a b => decide (sl a < sl b)) l).Pairwise fun x y => sl x ≠ sl y := (sortS_perm _ l).symm.pairwise hl fun h => Ne.symm h
 exact (h1.and h2).imp fun ⟨h3, h4⟩ => by simp at h3; omega
def cellAt (l : Layout) (me frame : Int) (k : Int) : Cell := ⟨(17 * me + 5 * frame + k).tmod (16 * l.data) |>.tmod l.data, (17 * me + 5 * frame + k).tmod (16 * l.data) |>.tdiv l.data⟩
def askStep (l : Layout) (t : Table) (me : Int) (near : List Near) (peer many : Int) (acc : List Ask) (c : Cell) : List Ask :=
 cond (possible l t me near peer c && (!(acc.any fun a => a.cell.slot == c.slot) && decide ((acc.length : Int) < many))) (acc ++ [⟨c, peer⟩]) acc
def keptAsks (l : Layout) (t : Table) (me : Int) (near : List Near) (peer many : Int) : List Ask := (t.asks.filter fun a => a.peer == peer && possible l t me near peer a.cell).take many.toNat
def triedAsks (l : Layout) (t : Table) (me : Int) (near : List Near) (peer many frame : Int) : List Ask :=
 (List.range (16 * l.data).toNat).foldl (fun acc (k : Nat) => askStep l t me near peer many acc (cellAt l me frame (k : Int))) (keptAsks l t me near peer many)
def askT (l : Layout) (t : Table) (me : Int) (near : List Near) (peer many frame : Int) : Table := ⟨t.uses, t.grants, sortAsk (triedAsks l t me near peer many frame)⟩
structure AskInv (l : Layout) (many : Int) (acc : List Ask) : Prop where
 rng : ∀ a ∈ acc, 0 ≤ a.cell.slot ∧ a.cell.slot < l.data
 dis : acc.Pairwise fun a b => a.cell.slot ≠ b.cell.slot
 len : (acc.length : Int) ≤ many
theorem cellAt_rng {l : Layout} {me frame k : Int} (hd : 1 ≤ l.data) (h0 : 0 ≤ 17 * me + 5 * frame + k) : 0 ≤ (cellAt l me frame k).slot ∧ (cellAt l me frame k).slot < l.data ∧ 0 ≤ (cellAt l me frame k).offset ∧ (cellAt l me frame k).offset < 16 := by
 unfold cellAt
 generalize 17 * me + 5 * frame + k = n at h0
 have hn0 : 0 ≤ n.tmod (16 * l.data) := Int.tmod_nonneg _ h0
 have hn1 : n.tmod (16 * l.data) < 16 * l.data := Int.tmod_lt_of_pos _ (by omega)
 generalize n.tmod (16 * l.data) = m at hn0 hn1
 refine ⟨Int.tmod_nonneg _ hn0, Int.tmod_lt_of_pos _ (by omega), Int.tdiv_nonneg hn0 (by omega), ?_⟩
 rw [Int.tdiv_eq_ediv_of_nonneg hn0]
 exact Int.ediv_lt_of_lt_mul (by omega) hn1
theorem askStep_inv {l : Layout} {t : Table} {me : Int} {near : List Near} {peer many : Int} {acc : List Ask} {c : Cell} (h : AskInv l many acc) (hc : 0 ≤ c.slot ∧ c.slot < l.data) : AskInv l many (askStep l t me near peer many acc c) := by
 unfold askStep
 cases hb : (possible l t me near peer c && (!(acc.any fun a => a.cell.slot == c.slot) && decide ((acc.length : Int) < many))) with
 | false => exact h
 | true =>
  simp only [Bool.and_eq_true, Bool.not_eq_true', List.any_eq_false, beq_iff_eq, decide_eq_true_eq] at hb
  simp only [cond_true]
  refine ⟨fun a ha => ?_, ?_, by simp; omega⟩
  ·simp only [List.mem_append, List.mem_singleton] at ha
   rcases ha with ha | rfl
   ·exact h.rng a ha
   ·exact hc
  ·rw [List.pairwise_append]
   refine ⟨h.dis, by simp, fun a ha b hb' => ?_⟩
   simp only [List.mem_singleton] at hb'
   subst hb'
   exact hb.2.1 a ha
theorem fold_inv {l : Layout} {t : Table} {me frame : Int} {near : List Near} {peer many : Int} (hd : 1 ≤ l.data) (hm : 0 ≤ me) (hf : 0 ≤ frame) (n : Nat) {acc : List Ask} (h : AskInv l many acc) : AskInv l many ((List.range n).foldl (fun acc (k : Nat) => askStep l t me near peer many acc (cellAt l me frame (k : Int))) acc) := by
 induction n with
 | zero => exact h
 | succ n ih =>
  rw [List.range_succ, List.foldl_append]
  have := cellAt_rng (l := l) (me := me) (frame := frame) (k := n) hd (by omega)
  exact askStep_inv ih ⟨this.1, this.2.1⟩
theorem kept_inv {l : Layout} {t : Table} (hv : ValidT l t) (me : Int) (near : List Near) (peer : Int) {many : Int} (h0 : 0 ≤ many) : AskInv l many (keptAsks l t me near peer many) := by
 have hsub : (keptAsks l t me near peer many).Sublist t.asks := (List.take_sublist _ _).trans List.filter_sublist
 refine ⟨fun a ha => isAsk_rng (hv.a a (hsub.subset ha)), (hv.ac.sublist hsub).imp fun h => by omega, ?_⟩
 unfold keptAsks
 rw [List.length_take]; omega
theorem tried_inv {l : Layout} {t : Table} (hv : ValidT l t) {me frame : Int} (near : List Near) (peer : Int) {many : Int} (h0 : 0 ≤ many) (hm : 0 ≤ me) (hf : 0 ≤ frame) : AskInv l many (triedAsks l t me near peer many frame) :=
 fold_inv hv.d1 hm hf _ (kept_inv hv me near peer h0)
structure Small (l : Layout) (me frame many : Int) : Prop where
 d1 : 1 ≤ l.data
 d2 : l.data ≤ 60
 m0 : 0 ≤ me
 m1 : me ≤ 60
 f0 : 0 ≤ frame
 f1 : frame ≤ 1000000000
 k0 : 0 ≤ many
 k1 : many ≤ 24
theorem cell_wrap {l : Layout} {me frame many : Int} (s : Small l me frame many) {k : Int} (h0 : 0 ≤ k) (h1 : k ≤ 1000) :
  (⟨((IntKind.i64.wrap ((IntKind.i64.wrap ((IntKind.i64.wrap (17 * me)) + (IntKind.i64.wrap (5 * frame)))) + k)).tmod (IntKind.i64.wrap (16 * l.data))).tmod l.data, IntKind.i64.wrap (((IntKind.i64.wrap ((IntKind.i64.wrap ((IntKind.i64.wrap (17 * me)) + (IntKind.i64.wrap (5 * frame)))) + k)).tmod (IntKind.i64.wrap (16 * l.data))).tdiv l.data)⟩ : Cell) = cellAt l me frame k := by
 obtain ⟨d1, d2, m0, m1, f0, f1, k0, k1⟩ := s
 have hr := cellAt_rng (l := l) (me := me) (frame := frame) (k := k) d1 (by omega)
 rw [wr (n := 17 * me) (by omega) (by omega), wr (n := 5 * frame) (by omega) (by omega), wr (n := 17 * me + 5 * frame) (by omega) (by omega), wr (n := 17 * me + 5 * frame + k) (by omega) (by omega), wr (n := 16 * l.data) (by omega) (by omega)]
 unfold cellAt at hr ⊢
 simp only at hr
 rw [wr (by omega) (by omega)]
theorem fold_range_succ {β : Type} (f : β → Nat → β) (k : Nat) (b : β) : (List.range (k + 1)).foldl f b = (List.range k).foldl (fun b j => f b (j + 1)) (f b 0) := by
 rw [List.range_succ_eq_map, List.foldl_cons, List.foldl_map]
theorem validA_parts {l : Layout} {t : Table} {me : Int} {near : List Near} {frame : Int} (h : validA l t me near frame = true) : ValidT l t ∧ 0 ≤ me ∧ me < l.nodes ∧ 0 ≤ frame ∧ frame ≤ 999999992 ∧ nearOk l me near frame = true := by
 simp only [validA, Bool.and_eq_true, decide_eq_true_eq, validT_iff] at h
 exact ⟨h.1, h.2.1.1, h.2.1.2, h.2.2.1.1, h.2.2.1.2, h.2.2.2⟩
theorem small_of {l : Layout} {t : Table} {me : Int} {near : List Near} {frame many : Int} (h : validA l t me near frame = true) (h0 : 0 ≤ many) (h1 : many ≤ 24) : Small l me frame many := by
 obtain ⟨hv, a, b, c, d, _⟩ := validA_parts h
 have := hv.n2
 exact ⟨hv.d1, hv.d2, a, by omega, c, by omega, h0, h1⟩
structure Fits (t : Table) (near : List Near) : Prop where
 u : t.uses.length ≤ 70
 g : t.grants.length ≤ 70
 a : t.asks.length ≤ 70
 n : Few near
end Go.VM.Tryz
namespace Go.VM.Tryz
theorem askStep_full {l : Layout} {t : Table} {me : Int} {near : List Near} {peer many : Int} {acc : List Ask} (h : many ≤ (acc.length : Int)) (c : Cell) : askStep l t me near peer many acc c = acc := by
 unfold askStep
 have : decide ((acc.length : Int) < many) = false := by simp; omega
 rw [this]; simp
theorem fold_full {l : Layout} {t : Table} {me : Int} {near : List Near} {peer many : Int} {acc : List Ask} (h : many ≤ (acc.length : Int)) (f : Nat → Cell) : ∀ xs : List Nat, xs.foldl (fun acc k => askStep l t me near peer many acc (f k)) acc = acc
 | [] => rfl
 | x :: xs => by rw [List.foldl_cons, askStep_full h]; exact fold_full h f xs
theorem f38_eq (l : Layout) (t : Table) (me : Int) (near : List Near) (frame : Int) (n : Near) (c : Cell) : f38 c (sideOf l me near frame) ⟨t.uses, t.grants, []⟩ (cleanN l n) = some (!(busy t c.slot || inSlot l n c.slot) && !foreign l near c me) := by
 unfold f38; rw [kBPossible_eq]; rfl
theorem step_eq {l : Layout} {t : Table} {me : Int} {near : List Near} {peer many frame : Int} {n : Near} (hn : findN near peer = some n) (hm : many ≤ 24) (acc : List Ask) (c : Cell) :
  kBAsk_R1 t peer many (sideOf l me near frame) (cleanN l n, true) acc c = some (askStep l t me near peer many acc c, cond (decide (many ≤ (acc.length : Int))) (some ()) none) := by
 unfold kBAsk_R1
 by_cases h : many ≤ (acc.length : Int)
 ·have h1 : decide ((acc.length : Int) ≥ many) = true := by simpa using h
  have h2 : decide (many ≤ (acc.length : Int)) = true := by simpa using h
  rw [h1, askStep_full h]; rfl
 ·have h1 : decide ((acc.length : Int) ≥ many) = false := by simpa using h
  have h2 : decide (many ≤ (acc.length : Int)) = false := by simpa using h
  have h3 : decide ((acc.length : Int) < many) = true := by simp; omega
  have h4 : decide (acc.length + 1 ≤ 4294967296) = true := by simp; omega
  rw [h1, h4]
  have e1 : f38 c (sideOf l me near frame) ⟨t.uses, t.grants, []⟩ (cleanN l n) = some (possible l t me near peer c) := by rw [f38_eq]; simp only [possible, hn]
  have e2 : f43 acc (fun y0 => some (f44 y0 ⟨c.slot, c.offset⟩)) = some (acc.any fun a => a.cell.slot == c.slot) := by
   rw [show (fun y0 => some (f44 y0 ⟨c.slot, c.offset⟩)) = fun a : Ask => some (a.cell.slot == c.slot) from rfl, f43_eq]
  show Option.bind (Option.bind (f38 c (sideOf l me near frame) ⟨t.uses, t.grants, []⟩ (cleanN l n)) _) _ = _
  rw [e1, e2]
  unfold askStep
  rw [h3]
  cases possible l t me near peer c with
  | false => rfl
  | true => cases acc.any fun a => a.cell.slot == c.slot <;> rfl
theorem it89_L1_eq {l : Layout} {t : Table} {me : Int} {near : List Near} {peer many frame : Int} (st : List Ask × Option Unit → Cell → Option ((List Ask × Option Unit) × Bool))
  (hst : ∀ acc c, st (acc, none) c = some ((askStep l t me near peer many acc c, cond (decide (many ≤ (acc.length : Int))) (some ()) none), !decide (many ≤ (acc.length : Int)))) (s : Small l me frame many) : ∀ (k i : Nat) (acc : List Ask), i + k ≤ 1000 →
  ∃ o, it89_L1 st (sideOf l me near frame) k i (acc, none) = some o ∧ (Sum.elim id id o).1 = (List.range k).foldl (fun acc (j : Nat) => askStep l t me near peer many acc (cellAt l me frame ((i + j : Nat) : Int))) acc
 | 0, i, acc, _ => ⟨_, rfl, rfl⟩
 | k + 1, i, acc, h => by
  have hc := cell_wrap s (k := i) (by omega) (by omega)
  have e1 : decide (IntKind.i64.wrap (16 * l.data) ≠ 0) = true := by
   have := s.d1; have := s.d2
   rw [wr (by omega) (by omega)]; simp; omega
  have e2 : decide (l.data ≠ 0) = true := by have := s.d1; simp; omega
  simp only [it89_L1]
  rw [show (sideOf l me near frame).l = l from rfl, show (sideOf l me near frame).me = me from rfl, show (sideOf l me near frame).frame = frame from rfl, e1, e2, hc]
  simp only [cond_true, hst, Option.bind_some]
  rw [fold_range_succ]
  by_cases hl : many ≤ (acc.length : Int)
  ·have h2 : decide (many ≤ (acc.length : Int)) = true := by simpa using hl
   rw [h2]
   refine ⟨_, rfl, ?_⟩
   simp only [cond_true, Sum.elim_inr, id, askStep_full hl]
   exact (fold_full (l := l) (t := t) (me := me) (near := near) (peer := peer) hl (fun j => cellAt l me frame ((i + (j + 1) : Nat) : Int)) _).symm
  ·have h2 : decide (many ≤ (acc.length : Int)) = false := by simpa using hl
   rw [h2]
   obtain ⟨o, h3, h4⟩ := it89_L1_eq st hst s k (i + 1) (askStep l t me near peer many acc (cellAt l me frame i)) (by omega)
   have e3 : ((i : Int) + 1) = ((i + 1 : Nat) : Int) := by simp
   refine ⟨o, ?_, ?_⟩
   ·simp only [cond_false, Bool.not_false, cond_true]
    rw [e3]; exact h3
   ·rw [h4]
    congr 1
    funext acc j
    rw [show i + 1 + j = i + (j + 1) by omega]
theorem it89_eq {l : Layout} {t : Table} {me : Int} {near : List Near} {peer many frame : Int} {n : Near} (hn : findN near peer = some n) (s : Small l me frame many) (acc : List Ask) :
  ∃ o, it89 (stepOf fun s x => kBAsk_R1 t peer many (sideOf l me near frame) (cleanN l n, true) s x) (sideOf l me near frame) (acc, none) = some o ∧ o.1 = (List.range (16 * l.data).toNat).foldl (fun acc (j : Nat) => askStep l t me near peer many acc (cellAt l me frame (j : Int))) acc := by
 have hd1 := s.d1; have hd2 := s.d2
 obtain ⟨o, h1, h2⟩ := it89_L1_eq (stepOf fun s x => kBAsk_R1 t peer many (sideOf l me near frame) (cleanN l n, true) s x) (fun acc c => by simp only [stepOf, step_eq hn s.k1, Option.map_some]; cases decide (many ≤ (acc.length : Int)) <;> rfl) s (16 * l.data).toNat 0 acc (by omega)
 simp only [Nat.zero_add] at h2
 refine ⟨Sum.elim id id o, ?_, h2⟩
 unfold it89
 have e1 : IntKind.i64.wrap (16 * l.data) = 16 * l.data := wr (by omega) (by omega)
 have e2 : decide (16 * l.data ≤ 9223372036854775807) = true := by simp; omega
 rw [show (sideOf l me near frame).l = l from rfl, e1, e2, Int.sub_zero]
 have h1 : it89_L1 (stepOf fun s x => kBAsk_R1 t peer many (sideOf l me near frame) (cleanN l n, true) s x) (sideOf l me near frame) (16 * l.data).toNat 0 (acc, none) = some o := h1
 rw [h1]
 cases o <;> rfl
theorem ask_tail (t : Table) (many : Int) (F : Ask → Option Bool) (p : Ask → Bool) (it : List Ask × Option Unit → Option (List Ask × Option Unit)) (hF : ∀ a, F a = some (p a)) (ha : t.asks.length ≤ 70) (h0 : 0 ≤ many) :
  (cond (decide ((t.asks.all fun a => (F a).isSome) = true ∧ t.asks.length ≤ 4000000)) (cond (decide (0 ≤ (minI ((t.asks.filter fun a => (F a).getD false).length : Int) many) ∧ (minI ((t.asks.filter fun a => (F a).getD false).length : Int) many) ≤ ((t.asks.filter fun a => (F a).getD false).length : Int))) (Option.bind (it (((t.asks.filter fun a => (F a).getD false).take (minI ((t.asks.filter fun a => (F a).getD false).length : Int) many).toNat), none)) fun v22 => cond (decide (sortable v22.1)) (some (⟨t.uses, t.grants, sortAsk v22.1⟩ : Table)) none) none) none)
   = Option.bind (it ((t.asks.filter p).take many.toNat, none)) fun v22 => cond (decide (sortable v22.1)) (some ⟨t.uses, t.grants, sortAsk v22.1⟩) none := by
 have e2 : decide ((t.asks.all fun a => (F a).isSome) = true ∧ t.asks.length ≤ 4000000) = true := by
  simp only [hF, Option.isSome_some, decide_eq_true_eq]; exact ⟨by simp, by omega⟩
 have e3 : (fun a => (F a).getD false) = p := funext fun a => by rw [hF]; rfl
 have e4 : ∀ xs : List Ask, decide (0 ≤ minI (xs.length : Int) many ∧ minI (xs.length : Int) many ≤ (xs.length : Int)) = true := fun xs => by
  rw [decide_eq_true_eq]; unfold minI
  by_cases h : many < (xs.length : Int)
  ·rw [if_pos h]; omega
  ·rw [if_neg h]; omega
 have e5 : ∀ xs : List Ask, xs.take (minI (xs.length : Int) many).toNat = xs.take many.toNat := fun xs => by
  unfold minI
  split
  ·rfl
  ·rw [List.take_of_length_le (by omega), List.take_of_length_le (by omega)]
 rw [e2, e3, e4, e5]; rfl
theorem kBAsk_eq (l : Layout) (t : Table) (me : Int) (near : List Near) (peer many frame : Int) (hf : Fits t near) :
  kBAsk l t me near peer many frame = some (cond (validA l t me near frame && (decide (0 ≤ many) && decide (many ≤ 24))) (askT l t me near peer many frame) t) := by
 have hu := hf.u; have hg := hf.g; have ha := hf.a
 unfold kBAsk
 rw [kNewSide_eq l t me near frame (by omega) (by omega) (by omega) hf.n]
 cases hv : validA l t me near frame with
 | false => rfl
 | true =>
  simp only [cond_true, Option.bind_some, Option.elim_some, Bool.true_and]
  have ew : kWithin many 24 = (decide (0 ≤ many) && decide (many ≤ 24)) := rfl
  rw [ew]
  cases hm : (decide (0 ≤ many) && decide (many ≤ 24)) with
  | false => rfl
  | true =>
   simp only [Bool.and_eq_true, decide_eq_true_eq] at hm
   have s := small_of hv hm.1 hm.2
   have vp := (validA_parts hv).1
   simp only [Bool.not_true, cond_false, cond_true, kBFind_eq, Option.bind_some]
   rw [show (sideOf l me near frame).near = near.map (cleanN l) from rfl, findN_clean]
   cases hn : findN near peer with
   | none =>
    have hp : ∀ c, possible l t me near peer c = false := fun c => by simp [possible, hn]
    have hk : keptAsks l t me near peer many = [] := by unfold keptAsks; simp [hp]
    have hs : ∀ acc c, askStep l t me near peer many acc c = acc := fun acc c => by unfold askStep; rw [hp]; rfl
    have ht : triedAsks l t me near peer many frame = [] := by
     unfold triedAsks
     rw [hk]
     generalize List.range (16 * l.data).toNat = xs
     induction xs with
     | nil => rfl
     | cons x xs ih => rw [List.foldl_cons, hs]; exact ih
    simp only [Option.map_none, cond_false, askT, ht]
    rfl
   | some n =>
    simp only [Option.map_some, cond_true]
    have e1 : ∀ a : Ask, f41 a peer (fun a => f38 a (sideOf l me near frame) ⟨t.uses, t.grants, []⟩ (cleanN l n)) = some (a.peer == peer && possible l t me near peer a.cell) := fun a => by
     unfold f41
     rw [show (fun a => f38 a (sideOf l me near frame) ⟨t.uses, t.grants, []⟩ (cleanN l n)) = fun c => some (possible l t me near peer c) from funext fun c => by rw [f38_eq]; simp only [possible, hn]]
     cases a.peer == peer <;> rfl
    refine (ask_tail t many (fun a => f41 a peer (fun a => f38 a (sideOf l me near frame) ⟨t.uses, t.grants, []⟩ (cleanN l n))) _ (it89 (stepOf fun s x => kBAsk_R1 t peer many (sideOf l me near frame) (cleanN l n, true) s x) (sideOf l me near frame)) e1 (by omega) (by omega)).trans ?_
    obtain ⟨o, h1, h2⟩ := it89_eq hn s (keptAsks l t me near peer many)
    have ti := tried_inv vp (me := me) (frame := frame) near peer hm.1 s.m0 s.f0
    have h2 : o.1 = triedAsks l t me near peer many frame := h2
    unfold keptAsks at h1
    simp only [h1, Option.bind_some, h2]
    have e6 : decide (sortable (triedAsks l t me near peer many frame)) = true := by
     have := s.d2
     rw [decide_eq_true_eq]
     exact ⟨fun a ha => by have := ti.rng a ha; omega, ti.dis⟩
    rw [e6]; rfl
end Go.VM.Tryz
namespace Go.VM.Tryz
noncomputable def refusedT (l : Layout) (t : Table) (slot : Int) (valid : Bool) : Int := cond (validT l t && valid) (cond (busy t slot) 5 (cond (decide (t.uses.length + t.grants.length ≥ 24)) 10 0)) 1
structure Mid (t : Table) : Prop where
 u : t.uses.length ≤ 100
 g : t.grants.length ≤ 100
 a : t.asks.length ≤ 100
theorem up_ins {α : Type} {sl : α → Int} {x : α} : ∀ {l : List α}, (l.Pairwise fun a b => sl a < sl b) → (∀ a ∈ l, sl a ≠ sl x) → (insBy (fun y => decide (sl y > sl x)) x l).Pairwise fun a b => sl a < sl b
 | [], _, _ => by simp [insBy]
 | y :: l, h, hn => by
  rw [List.pairwise_cons] at h
  by_cases hy : sl y > sl x
  ·have e : insBy (fun y => decide (sl y > sl x)) x (y :: l) = x :: y :: l := by simp [insBy, hy]
   rw [e, List.pairwise_cons, List.pairwise_cons]
   refine ⟨fun z hz => ?_, h.1, h.2⟩
   rcases List.mem_cons.1 hz with rfl | hz
   ·exact hy
   ·have := h.1 z hz; omega
  ·have e : insBy (fun y => decide (sl y > sl x)) x (y :: l) = y :: insBy (fun y => decide (sl y > sl x)) x l := by simp [insBy, hy]
   have ih := up_ins h.2 fun a ha => hn a (List.mem_cons_of_mem _ ha)
   rw [e, List.pairwise_cons]
   refine ⟨fun z hz => ?_, ih⟩
   have hz : z = x ∨ z ∈ l := by
    unfold insBy at hz
    rw [List.mem_append, List.mem_cons] at hz
    rcases hz with hz | hz | hz
    ·exact .inr ((List.takeWhile_sublist _).subset hz)
    ·exact .inl hz
    ·exact .inr ((List.dropWhile_sublist _).subset hz)
   rcases hz with rfl | hz
   ·have := hn y (by simp); omega
   ·exact h.1 z hz
theorem mem_ins {α : Type} {p : α → Bool} {x y : α} {l : List α} : y ∈ insBy p x l ↔ y = x ∨ y ∈ l := by
 have h : l = l.takeWhile (fun a => !p a) ++ l.dropWhile fun a => !p a := (List.takeWhile_append_dropWhile).symm
 unfold insBy
 rw [List.mem_append, List.mem_cons]
 conv => rhs; rw [h, List.mem_append]
 constructor
 ·rintro (h | h | h)
  ·exact .inr (.inl h)
  ·exact .inl h
  ·exact .inr (.inr h)
 ·rintro (h | h | h)
  ·exact .inr (.inl h)
  ·exact .inl h
  ·exact .inr (.inr h)
theorem ins_length {α : Type} {p : α → Bool} {x : α} {l : List α} : (insBy p x l).length = l.length + 1 := by
 have h := congrArg List.length (List.takeWhile_append_dropWhile (p := fun a => !p a) (l := l))
 rw [List.length_append] at h
 unfold insBy
 rw [List.length_append, List.length_cons]; omega
noncomputable def codeTGrant (l : Layout) (t : Table) (g : Grant) : Int := refusedT l t g.cell.slot (isGrant g l)
def putTGrant (t : Table) (g : Grant) : Table := ⟨t.uses, insBy (beyondGrant g) g t.grants, t.asks.filter fun a => !(a.cell.slot == g.cell.slot)⟩
noncomputable def addTGrant (l : Layout) (t : Table) (g : Grant) : Table := cond (codeTGrant l t g == 0) (putTGrant t g) t
theorem codeGrant_zero {l : Layout} {t : Table} {g : Grant} (h : codeTGrant l t g = 0) : ValidT l t ∧ isGrant g l = true ∧ busy t g.cell.slot = false ∧ t.uses.length + t.grants.length < 24 := by
 unfold codeTGrant refusedT at h
 cases hv : validT l t with
 | false => rw [hv] at h; simp at h
 | true =>
  cases hg : isGrant g l with
  | false => rw [hv, hg] at h; simp at h
  | true =>
   cases hb : busy t g.cell.slot with
   | true => rw [hv, hg, hb] at h; simp at h
   | false =>
    rw [hv, hg, hb] at h
    refine ⟨validT_iff.1 hv, rfl, rfl, ?_⟩
    cases hl : decide (t.uses.length + t.grants.length ≥ 24) with
    | true => rw [hl] at h; simp at h
    | false => simpa using hl
theorem busy_false {t : Table} {s : Int} (h : busy t s = false) : (∀ u ∈ t.uses, u.cell.slot ≠ s) ∧ ∀ u ∈ t.grants, u.cell.slot ≠ s := by
 simpa [busy] using h
theorem kCellsAddGrant_eq {l : Layout} {t : Table} (h : Mid t) (g : Grant) : kCellsAddGrant t l g = some (cond (codeTGrant l t g == 0) (putTGrant t g, 0) (⟨[], [], []⟩, codeTGrant l t g)) := by
 have hu := h.u; have hg := h.g; have ha := h.a
 have e : cellsRefusedG t l g = some (codeTGrant l t g) := by
  unfold cellsRefusedG codeTGrant refusedT
  rw [kCellsValid_eq t l (by omega) (by omega) (by omega), wr (by omega) (by omega)]
  have e1 : decide ((t.uses.length : Int) + (t.grants.length : Int) ≥ 24) = decide (t.uses.length + t.grants.length ≥ 24) := by
   rw [Bool.eq_iff_iff, decide_eq_true_eq, decide_eq_true_eq]; omega
  rw [e1]
  simp only [Option.bind_some, lt, kCBusy_eq]
  show Option.bind (cond (validT l t) (some (!isGrant g l)) (some true)) _ = _
  cases validT l t with
  | false => rfl
  | true =>
   cases isGrant g l with
   | false => rfl
   | true =>
    simp only [cond_true, Bool.not_true, Option.bind_some, cond_false, Bool.and_self]
    show cond (busy t g.cell.slot) _ _ = _
    cases busy t g.cell.slot <;> cases decide (t.uses.length + t.grants.length ≥ 24) <;> rfl
 unfold kCellsAddGrant
 rw [e]
 simp only [Option.bind_some, bne]
 cases hc : codeTGrant l t g == 0 with
 | false => simp
 | true =>
  rw [beq_iff_eq] at hc
  have d1 : ∀ n : Nat, n ≤ 100 → decide (n ≤ 4000000) = true := fun n hn => by simp; omega
  have d2 : ∀ n : Nat, n ≤ 100 → decide (n ≤ 3999999) = true := fun n hn => by simp; omega
  have d3 : decide (t.uses.length ≤ 4000000 ∧ t.grants.length ≤ 4000000 ∧ t.asks.length ≤ 4000000) = true := by simp; omega
  rw [d1 _ hu, d2 _ hg, d3, hc]; rfl
theorem addTGrant_mid {l : Layout} {t : Table} {g : Grant} (h : Mid t) : Mid (addTGrant l t g) := by
 unfold addTGrant
 cases hc : codeTGrant l t g == 0 with
 | false => exact h
 | true =>
  rw [beq_iff_eq] at hc
  obtain ⟨hv, hg1, hb, hl⟩ := codeGrant_zero hc
  have := hv.alen
  have hf := List.length_filter_le (fun a : Ask => !(a.cell.slot == g.cell.slot)) t.asks
  refine ⟨?_, ?_, ?_⟩ <;> simp only [cond_true, putTGrant, ins_length] <;> omega
noncomputable def codeTUse (l : Layout) (t : Table) (g : Use) : Int := refusedT l t g.cell.slot (isUse g l)
def putTUse (t : Table) (g : Use) : Table := ⟨insBy (beyondUse g) g t.uses, t.grants, t.asks.filter fun a => !(a.cell.slot == g.cell.slot)⟩
noncomputable def addTUse (l : Layout) (t : Table) (g : Use) : Table := cond (codeTUse l t g == 0) (putTUse t g) t
theorem codeUse_zero {l : Layout} {t : Table} {g : Use} (h : codeTUse l t g = 0) : ValidT l t ∧ isUse g l = true ∧ busy t g.cell.slot = false ∧ t.uses.length + t.grants.length < 24 := by
 unfold codeTUse refusedT at h
 cases hv : validT l t with
 | false => rw [hv] at h; simp at h
 | true =>
  cases hg : isUse g l with
  | false => rw [hv, hg] at h; simp at h
  | true =>
   cases hb : busy t g.cell.slot with
   | true => rw [hv, hg, hb] at h; simp at h
   | false =>
    rw [hv, hg, hb] at h
    refine ⟨validT_iff.1 hv, rfl, rfl, ?_⟩
    cases hl : decide (t.uses.length + t.grants.length ≥ 24) with
    | true => rw [hl] at h; simp at h
    | false => simpa using hl
theorem kCellsAddUse_eq {l : Layout} {t : Table} (h : Mid t) (g : Use) : kCellsAddUse t l g = some (cond (codeTUse l t g == 0) (putTUse t g, 0) (⟨[], [], []⟩, codeTUse l t g)) := by
 have hu := h.u; have hg := h.g; have ha := h.a
 have e : cellsRefusedU t l g = some (codeTUse l t g) := by
  unfold cellsRefusedU codeTUse refusedT
  rw [kCellsValid_eq t l (by omega) (by omega) (by omega), wr (by omega) (by omega)]
  have e1 : decide ((t.uses.length : Int) + (t.grants.length : Int) ≥ 24) = decide (t.uses.length + t.grants.length ≥ 24) := by
   rw [Bool.eq_iff_iff, decide_eq_true_eq, decide_eq_true_eq]; omega
  rw [e1]
  simp only [Option.bind_some, lt, kCBusy_eq]
  show Option.bind (cond (validT l t) (some (!isUse g l)) (some true)) _ = _
  cases validT l t with
  | false => rfl
  | true =>
   cases isUse g l with
   | false => rfl
   | true =>
    simp only [cond_true, Bool.not_true, Option.bind_some, cond_false, Bool.and_self]
    show cond (busy t g.cell.slot) _ _ = _
    cases busy t g.cell.slot <;> cases decide (t.uses.length + t.grants.length ≥ 24) <;> rfl
 unfold kCellsAddUse
 rw [e]
 simp only [Option.bind_some, bne]
 cases hc : codeTUse l t g == 0 with
 | false => simp
 | true =>
  rw [beq_iff_eq] at hc
  have d1 : ∀ n : Nat, n ≤ 100 → decide (n ≤ 4000000) = true := fun n hn => by simp; omega
  have d2 : ∀ n : Nat, n ≤ 100 → decide (n ≤ 3999999) = true := fun n hn => by simp; omega
  have d3 : decide (t.uses.length ≤ 4000000 ∧ t.grants.length ≤ 4000000 ∧ t.asks.length ≤ 4000000) = true := by simp; omega
  rw [d2 _ hu, d1 _ hg, d3, hc]; rfl
theorem addTUse_mid {l : Layout} {t : Table} {g : Use} (h : Mid t) : Mid (addTUse l t g) := by
 unfold addTUse
 cases hc : codeTUse l t g == 0 with
 | false => exact h
 | true =>
  rw [beq_iff_eq] at hc
  obtain ⟨hv, hg1, hb, hl⟩ := codeUse_zero hc
  have := hv.alen
  have hf := List.length_filter_le (fun a : Ask => !(a.cell.slot == g.cell.slot)) t.asks
  refine ⟨?_, ?_, ?_⟩ <;> simp only [cond_true, putTUse, ins_length] <;> omega
end Go.VM.Tryz
namespace Go.VM.Tryz
def heard (n : Near) (frame : Int) : Bool := decide (n.frame + 1 ≥ frame)
def tellsC (l : Layout) (n : Near) (c : Cell) (me : Int) : Bool := usesC l n c me || asksC l n c me
def renew (l : Layout) (me : Int) (near : List Near) (frame : Int) (g : Grant) : Grant := { g with til := match findN near g.peer with
 | some n => cond (heard n frame && tellsC l n g.cell me) (maxI g.til (frame + 8)) g.til
 | none => g.til }
noncomputable def gStep (l : Layout) (me : Int) (near : List Near) (frame : Int) (n : Near) (t : Table) (a : Ask) : Table :=
 cond (isAsk a l && (a.peer == me && !usedC l near a.cell n.src)) (addTGrant l t ⟨a.cell, n.src, frame, frame + 8⟩) t
noncomputable def gNear (l : Layout) (me : Int) (near : List Near) (frame : Int) (t : Table) (n : Near) : Table := cond (heard n frame) (n.t.asks.foldl (gStep l me near frame n) t) t
def leftT (l : Layout) (t : Table) (me : Int) (near : List Near) (frame : Int) : Table := ⟨t.uses, (t.grants.filter fun g => decide (g.til ≥ frame)).map (renew l me near frame), t.asks⟩
noncomputable def grantT (l : Layout) (t : Table) (me : Int) (near : List Near) (frame : Int) : Table := near.foldl (gNear l me near frame) (leftT l t me near frame)
def FrOk (near : List Near) (frame : Int) : Prop := (0 ≤ frame ∧ frame ≤ 999999992) ∧ ∀ n ∈ near, 0 ≤ n.frame ∧ n.frame ≤ frame
theorem frOk_of {l : Layout} {t : Table} {me : Int} {near : List Near} {frame : Int} (h : validA l t me near frame = true) : FrOk near frame := by
 obtain ⟨hv, a, b, c, d, e⟩ := validA_parts h
 refine ⟨⟨c, d⟩, fun n hn => ?_⟩
 have := (chain_none.1 e).1 n hn
 simp only [nearOk1, Bool.and_eq_true, decide_eq_true_eq] at this
 omega
theorem wasHeard_eq {l : Layout} {me : Int} {near : List Near} {frame : Int} (h : FrOk near frame) (near' : List Near) {n : Near} (hn : n ∈ near) : kWasHeard (sideOf l me near' frame) (cleanN l n) = heard n frame := by
 have := h.2 n hn; have := h.1
 unfold kWasHeard heard
 rw [show (sideOf l me near' frame).frame = frame from rfl, show (cleanN l n).frame = n.frame from rfl, wr (by omega) (by omega), Bool.eq_iff_iff, decide_eq_true_eq, decide_eq_true_eq]
 omega
theorem findN_mem {near : List Near} {k : Int} {n : Near} (h : findN near k = some n) : n ∈ near ∧ n.src = k := by
 refine ⟨List.mem_of_find?_eq_some h, ?_⟩
 have := List.find?_some h
 simpa using this
theorem gStep_mid {l : Layout} {me : Int} {near : List Near} {frame : Int} {n : Near} {t : Table} {a : Ask} (h : Mid t) : Mid (gStep l me near frame n t a) := by
 unfold gStep
 cases (isAsk a l && (a.peer == me && !usedC l near a.cell n.src)) with
 | false => exact h
 | true => exact addTGrant_mid h
theorem gFold_mid {l : Layout} {me : Int} {near : List Near} {frame : Int} {n : Near} : ∀ {zs : List Ask} {t : Table}, Mid t → Mid (zs.foldl (gStep l me near frame n) t)
 | [], _, h => h
 | a :: zs, t, h => gFold_mid (zs := zs) (t := gStep l me near frame n t a) (gStep_mid h)
theorem gNear_mid {l : Layout} {me : Int} {near : List Near} {frame : Int} {t : Table} {n : Near} (h : Mid t) : Mid (gNear l me near frame t n) := by
 unfold gNear
 cases heard n frame with
 | false => exact h
 | true => exact gFold_mid h
theorem leftT_mid {l : Layout} {t : Table} {me : Int} {near : List Near} {frame : Int} (h : Mid t) : Mid (leftT l t me near frame) := by
 have hf := List.length_filter_le (fun g : Grant => decide (g.til ≥ frame)) t.grants
 have := h.g
 exact ⟨h.u, by simp only [leftT, List.length_map]; omega, h.a⟩
theorem f134_eq (l : List Ask) (a : Ask) : f134 l a = idx (fun x => askEq a x) l := by
 have key : ∀ (l : List Ask) (i : Int), f134_L1 a l i = (match l.findIdx? (fun x => askEq a x) with | some j => .inr (i + j) | none => .inl ()) := by
  intro l
  induction l with
  | nil => intro i; simp [f134_L1]
  | cons x l ih =>
   intro i
   simp only [f134_L1, List.findIdx?_cons, ih]
   show cond (askEq a x) _ _ = _
   cases askEq a x with
   | true => simp
   | false =>
    simp only [cond_false, Bool.false_eq_true, if_false]
    cases l.findIdx? (fun x => askEq a x) with
    | none => rfl
    | some j => simp only [Option.map_some, Int.natCast_add, Int.natCast_one]; congr 1; omega
 unfold f134 idx lt
 rw [key]
 cases l.findIdx? (fun x => askEq a x) <;> simp
theorem kTells_eq {l : Layout} {me : Int} (hme : 0 ≤ me) (near : List Near) (frame : Int) (n : Near) (c : Cell) : kTells (sideOf l me near frame) (cleanN l n) c = some (tellsC l n c me) := by
 have e1 : f98 (cleanN l n).t.uses (fun y0 => some (f99 y0 ⟨c.slot, c.offset⟩ (sideOf l me near frame))) = some (usesC l n c me) := by
  rw [show (fun y0 => some (f99 y0 ⟨c.slot, c.offset⟩ (sideOf l me near frame))) = fun u : Use => some (cellEq u.cell c && u.peer == me) from rfl, f98_eq]
  have hd : decide (me < 0) = false := by simp; omega
  simp only [usesC, cleanN, List.any_filter, hd, Bool.false_or]
 have e2 : f100 (cleanN l n).t.asks ⟨⟨c.slot, c.offset⟩, (sideOf l me near frame).me⟩ = asksC l n c me := by
  unfold f100
  rw [f134_eq, idx_any]
  simp only [asksC, cleanN, List.any_filter]
  congr 1
  funext a
  congr 1
  unfold askEq
  rw [cellEq_comm, Bool.and_true]
  show (cellEq a.cell c && me == a.peer) = _
  rw [Bool.eq_iff_iff]; simp only [Bool.and_eq_true, beq_iff_eq]
  exact and_congr_right fun _ => eq_comm
 unfold kTells
 rw [e1, e2]
 unfold tellsC
 cases usesC l n c me <;> rfl
theorem kBUsed_eq (l : Layout) (me : Int) (near : List Near) (frame : Int) (c : Cell) (but : Int) : kBUsed (sideOf l me near frame) c but = some (usedC l near c but) := by
 unfold kBUsed
 rw [show (fun y0 => f101 y0 but ⟨c.slot, c.offset⟩) = fun n : Near => some (n.src != but && n.t.uses.any fun u => cellEq u.cell c) from funext fun n => by
  unfold f101
  rw [show (fun y0 => some (f102 y0 ⟨c.slot, c.offset⟩)) = fun u : Use => some (cellEq u.cell c) from rfl, f98_eq]
  cases n.src != but <;> rfl, f85_eq]
 have hd : decide ((-1 : Int) < 0) = true := rfl
 simp only [Option.bind_some, usedC, usesC, sideOf, List.any_map, Function.comp_def, cleanN, List.any_filter, hd, Bool.true_or, Bool.and_true]
 congr 2
 funext n
 exact Bool.and_comm _ _
theorem kBGrant_L1_eq {l : Layout} {me : Int} {near : List Near} {frame : Int} (hme : 0 ≤ me) (hfr : FrOk near frame) : ∀ (post pre : List Grant), pre.length + post.length ≤ 1000 →
  kBGrant_L1 frame (sideOf l me near frame) post.length pre.length (pre ++ post) = some (pre ++ post.map (renew l me near frame))
 | [], pre, _ => by simp [kBGrant_L1]
 | g :: post, pre, h => by
  simp only [List.length_cons] at h
  have hb := hfr.1
  have hd : decide (0 ≤ (pre.length : Int) ∧ (pre.length : Int) < ((pre ++ g :: post).length : Int)) = true := by simp; omega
  have he : elt (pre ++ g :: post) (pre.length : Int) = some g := by rw [elt_nat]; simp
  have ih := kBGrant_L1_eq hme hfr (l := l) post (pre ++ [renew l me near frame g]) (by simp; omega)
  have e1 : ((pre ++ [renew l me near frame g]).length : Int) = (pre.length : Int) + 1 := by simp
  rw [e1] at ih
  simp only [kBGrant_L1, List.length_cons, hd, cond_true, he, Option.bind_some, kBFind_eq]
  rw [show (sideOf l me near frame).near = near.map (cleanN l) from rfl, findN_clean, wr (n := frame + 8) (by omega) (by omega)]
  have fin : ∀ q : Grant, q = renew l me near frame g → kBGrant_L1 frame (sideOf l me near frame) post.length ((pre.length : Int) + 1) (pre ++ q :: post) = some (pre ++ (g :: post).map (renew l me near frame)) := by
   rintro q rfl
   rw [show pre ++ renew l me near frame g :: post = (pre ++ [renew l me near frame g]) ++ post by simp, ih]; simp
  have hset : ∀ q : Grant, (pre ++ g :: post).set (pre.length : Int).toNat q = pre ++ q :: post := fun q => by simp
  cases hn : findN near g.peer with
  | none =>
   simp only [Option.map_none, cond_false, Option.bind_some]
   exact fin g (by unfold renew; rw [hn])
  | some n =>
   have hm := (findN_mem hn).1
   simp only [Option.map_some, cond_true, wasHeard_eq hfr near hm, kTells_eq hme, Option.bind_some, hset]
   cases hh : heard n frame with
   | false => simp only [cond_false, Option.bind_some]; exact fin g (by unfold renew; rw [hn]; simp only [hh, Bool.false_and, cond_false])
   | true =>
    simp only [cond_true, Option.bind_some]
    cases ht : tellsC l n g.cell me with
    | false => simp only [cond_false, Option.bind_some]; exact fin g (by unfold renew; rw [hn]; simp only [hh, ht, Bool.and_false, cond_false])
    | true => simp only [cond_true, Option.bind_some]; exact fin _ (by unfold renew; rw [hn]; simp only [hh, ht, Bool.and_self, cond_true])
theorem kBGrant_L3_eq {l : Layout} {me : Int} {near : List Near} {frame : Int} (hfr : FrOk near frame) (n : Near) : ∀ (zs : List Ask) (t : Table), Mid t →
  kBGrant_L3 l me frame (sideOf l me near frame) (cleanN l n) (zs.filter (isAsk · l)) t.uses t.grants t.asks = some ((zs.foldl (gStep l me near frame n) t).uses, (zs.foldl (gStep l me near frame n) t).grants, (zs.foldl (gStep l me near frame n) t).asks)
 | [], t, _ => rfl
 | a :: zs, t, hm => by
  have hb := hfr.1
  have ih := fun t hm => kBGrant_L3_eq (l := l) (me := me) hfr n zs t hm
  simp only [List.filter_cons, List.foldl_cons]
  unfold gStep
  cases hi : isAsk a l with
  | false => simp only [Bool.false_eq_true, if_false, Bool.false_and, cond_false]; exact ih t hm
  | true =>
   simp only [if_true, Bool.true_and, kBGrant_L3, kBUsed_eq, Option.bind_some]
   rw [show (cleanN l n).src = n.src from rfl]
   have e9 : (Option.bind (cond (a.peer != me) (some true) (some (usedC l near a.cell n.src))) fun v33 => cond v33 (kBGrant_L3 l me frame (sideOf l me near frame) (cleanN l n) (zs.filter (isAsk · l)) t.uses t.grants t.asks) (Option.bind (kCellsAddGrant ⟨t.uses, t.grants, t.asks⟩ l ⟨⟨a.cell.slot, a.cell.offset⟩, n.src, frame, IntKind.i64.wrap (frame + 8)⟩) fun v37 => kBGrant_L3 l me frame (sideOf l me near frame) (cleanN l n) (zs.filter (isAsk · l)) (cond (v37.2 == 0) (v37.1.uses) (t.uses)) (cond (v37.2 == 0) (v37.1.grants) (t.grants)) (cond (v37.2 == 0) (v37.1.asks) (t.asks))))
    = cond (a.peer == me && !usedC l near a.cell n.src) (Option.bind (kCellsAddGrant ⟨t.uses, t.grants, t.asks⟩ l ⟨⟨a.cell.slot, a.cell.offset⟩, n.src, frame, IntKind.i64.wrap (frame + 8)⟩) fun v37 => kBGrant_L3 l me frame (sideOf l me near frame) (cleanN l n) (zs.filter (isAsk · l)) (cond (v37.2 == 0) (v37.1.uses) (t.uses)) (cond (v37.2 == 0) (v37.1.grants) (t.grants)) (cond (v37.2 == 0) (v37.1.asks) (t.asks))) (kBGrant_L3 l me frame (sideOf l me near frame) (cleanN l n) (zs.filter (isAsk · l)) t.uses t.grants t.asks) := by
    unfold bne; cases a.peer == me <;> cases usedC l near a.cell n.src <;> rfl
   rw [e9]
   cases (a.peer == me && !usedC l near a.cell n.src) with
   | false => exact ih t hm
   | true =>
    rw [wr (n := frame + 8) (by omega) (by omega), kCellsAddGrant_eq (t := ⟨t.uses, t.grants, t.asks⟩) (by exact hm)]
    have ih2 := ih (addTGrant l t ⟨a.cell, n.src, frame, frame + 8⟩) (addTGrant_mid hm)
    simp only [cond_true, Option.bind_some]
    unfold addTGrant at ih2 ⊢
    show kBGrant_L3 l me frame (sideOf l me near frame) (cleanN l n) _ (cond ((cond (codeTGrant l t ⟨a.cell, n.src, frame, frame + 8⟩ == 0) (putTGrant t ⟨a.cell, n.src, frame, frame + 8⟩, 0) (⟨[], [], []⟩, codeTGrant l t ⟨a.cell, n.src, frame, frame + 8⟩)).2 == 0) _ _) _ _ = _
    cases hc : codeTGrant l t ⟨a.cell, n.src, frame, frame + 8⟩ == 0 with
    | true => rw [hc] at ih2; exact ih2
    | false =>
     rw [hc] at ih2
     simp only [cond_false, hc]
     exact ih2
theorem kBGrant_L2_eq {l : Layout} {me : Int} {near : List Near} {frame : Int} (hfr : FrOk near frame) : ∀ (xs : List Near) (t : Table), (∀ n ∈ xs, n ∈ near) → Mid t →
  kBGrant_L2 l me frame (sideOf l me near frame) (xs.map (cleanN l)) t.uses t.grants t.asks = some ((xs.foldl (gNear l me near frame) t).uses, (xs.foldl (gNear l me near frame) t).grants, (xs.foldl (gNear l me near frame) t).asks)
 | [], t, _, _ => rfl
 | n :: xs, t, hs, hm => by
  have hn := hs n (by simp)
  have ih := kBGrant_L2_eq hfr (l := l) (me := me) xs (gNear l me near frame t n) (fun m hm => hs m (List.mem_cons_of_mem _ hm)) (gNear_mid hm)
  simp only [List.map_cons, kBGrant_L2, List.foldl_cons, wasHeard_eq hfr near hn]
  unfold gNear at ih ⊢
  cases hh : heard n frame with
  | true =>
   have h := kBGrant_L3_eq (l := l) (me := me) hfr n n.t.asks t hm
   have h : kBGrant_L3 l me frame (sideOf l me near frame) (cleanN l n) (cleanN l n).t.asks t.uses t.grants t.asks = _ := h
   rw [h]
   rw [hh] at ih
   exact ih
  | false => rw [hh] at ih; exact ih
theorem kBGrant_eq (l : Layout) (t : Table) (me : Int) (near : List Near) (frame : Int) (hm : Mid t) (hn : Few near) :
  kBGrant l t me near frame = some (cond (validA l t me near frame) (grantT l t me near frame) t) := by
 have hu := hm.u; have hg := hm.g; have ha := hm.a
 unfold kBGrant
 rw [kNewSide_eq l t me near frame (by omega) (by omega) (by omega) hn]
 simp only [Option.bind_some]
 cases hv : validA l t me near frame with
 | false => rfl
 | true =>
  have hfr := frOk_of hv
  obtain ⟨_, hme, _⟩ := validA_parts hv
  have hf := List.length_filter_le (fun g : Grant => decide (g.til ≥ frame)) t.grants
  have eg : (expire t frame).grants = t.grants.filter fun g => decide (g.til ≥ frame) := by
   show (t.grants.filter fun g => !decide (g.til < frame)) = _
   congr 1; funext g
   rw [Bool.eq_iff_iff]; simp
  have d1 : decide (t.uses.length ≤ 4000000 ∧ t.grants.length ≤ 4000000 ∧ t.asks.length ≤ 4000000) = true := by simp; omega
  have d2 : decide ((t.grants.filter fun g => decide (g.til ≥ frame)).length ≤ 4000000) = true := by rw [decide_eq_true_eq]; omega
  have d3 : decide (((t.grants.filter fun g => decide (g.til ≥ frame)).length : Int) ≤ 9223372036854775807) = true := by rw [decide_eq_true_eq]; omega
  rw [eg]
  simp only [d1, d2, d3, cond_true, Option.bind_some, Int.sub_zero, Int.toNat_natCast]
  have h1 := kBGrant_L1_eq hme hfr (l := l) (t.grants.filter fun g => decide (g.til ≥ frame)) [] (by simp only [List.length_nil]; omega)
  have h1 : kBGrant_L1 frame (sideOf l me near frame) (t.grants.filter fun g => decide (g.til ≥ frame)).length 0 (t.grants.filter fun g => decide (g.til ≥ frame)) = _ := h1
  rw [h1]
  have h := kBGrant_L2_eq (l := l) (me := me) hfr near (leftT l t me near frame) (fun _ h => h) (leftT_mid hm)
  simp only [Option.bind_some, List.nil_append]
  have h : kBGrant_L2 l me frame (sideOf l me near frame) (sideOf l me near frame).near (expire t frame).uses ((t.grants.filter fun g => decide (g.til ≥ frame)).map (renew l me near frame)) (expire t frame).asks = _ := h
  rw [h]; rfl
end Go.VM.Tryz
namespace Go.VM.Tryz
def mineC (l : Layout) (me frame : Int) (g : Grant) : Bool := isGrant g l && (g.peer == me && decide (g.til ≥ frame))
def grantedC (l : Layout) (near : List Near) (peer : Int) (c : Cell) (me frame : Int) : Option Grant := (findN near peer).bind fun n => n.t.grants.find? fun g => mineC l me frame g && cellEq g.cell c
def keepUse (l : Layout) (me : Int) (near : List Near) (frame : Int) (u : Use) : Option Use := (grantedC l near u.peer u.cell me frame).map fun g => ⟨u.cell, u.peer, g.stamp⟩
def partnerB (t : Table) (p : Int) : Bool := t.uses.any (fun x => x.peer == p) || t.asks.any fun x => x.peer == p
noncomputable def tStep (l : Layout) (me frame : Int) (n : Near) (t : Table) (g : Grant) : Table := cond (mineC l me frame g) (addTUse l t ⟨g.cell, n.src, g.stamp⟩) t
noncomputable def tNear (l : Layout) (t0 : Table) (me frame : Int) (t : Table) (n : Near) : Table := cond (partnerB t0 n.src) (n.t.grants.foldl (tStep l me frame n) t) t
def keptT (l : Layout) (t : Table) (me : Int) (near : List Near) (frame : Int) : Table := ⟨t.uses.filterMap (keepUse l me near frame), t.grants, t.asks⟩
noncomputable def takeT (l : Layout) (t : Table) (me : Int) (near : List Near) (frame : Int) : Table := near.foldl (tNear l t me frame) (keptT l t me near frame)
theorem tStep_mid {l : Layout} {me frame : Int} {n : Near} {t : Table} {g : Grant} (h : Mid t) : Mid (tStep l me frame n t g) := by
 unfold tStep
 cases mineC l me frame g with
 | false => exact h
 | true => exact addTUse_mid h
theorem tFold_mid {l : Layout} {me frame : Int} {n : Near} : ∀ {gs : List Grant} {t : Table}, Mid t → Mid (gs.foldl (tStep l me frame n) t)
 | [], _, h => h
 | g :: gs, t, h => tFold_mid (gs := gs) (t := tStep l me frame n t g) (tStep_mid h)
theorem tNear_mid {l : Layout} {t0 : Table} {me frame : Int} {t : Table} {n : Near} (h : Mid t) : Mid (tNear l t0 me frame t n) := by
 unfold tNear
 cases partnerB t0 n.src with
 | false => exact h
 | true => exact tFold_mid h
theorem keptT_mid {l : Layout} {t : Table} {me : Int} {near : List Near} {frame : Int} (h : Mid t) : Mid (keptT l t me near frame) := by
 have hf := List.length_filterMap_le (keepUse l me near frame) t.uses
 have := h.u
 exact ⟨by simp only [keptT]; omega, h.g, h.a⟩
theorem mget_put (k n : Int) : ∀ m : List (Int × Bool), mgetT k false (mputT n true m) = (mgetT k false m || n == k) := by
 intro m
 unfold mgetT mputT
 cases hf : m.findIdx? (fun y => y.1 == n) with
 | none =>
  simp only [List.findIdx?_append]
  cases hk : m.findIdx? (fun y => y.1 == k) with
  | none =>
   simp only [Option.none_or, List.findIdx?_cons, List.findIdx?_nil, Option.map_none]
   cases hkn : n == k with
   | true => simp [hkn]
   | false => simp [hkn]
  | some j =>
   obtain ⟨hj, hp, _⟩ := List.findIdx?_eq_some_iff_getElem.1 hk
   simp only [Option.some_or, List.getElem?_append_left hj]
   cases hkn : n == k with
   | false => simp
   | true =>
    rw [beq_iff_eq] at hkn
    rw [List.findIdx?_eq_none_iff] at hf
    have := hf _ (List.getElem_mem hj)
    rw [hkn, hp] at this; cases this
 | some j =>
  obtain ⟨hj, hp, hb⟩ := List.findIdx?_eq_some_iff_getElem.1 hf
  rw [beq_iff_eq] at hp
  have e : (m.set j (n, true)).map (·.1) = m.map (·.1) := by
   rw [List.map_set]
   refine List.ext_getElem (by simp) fun i h1 h2 => ?_
   rw [List.getElem_set]
   by_cases hij : j = i
   ·subst hij; simp [hp]
   ·rw [if_neg hij]
  have e2 : ∀ q : List (Int × Bool), q.findIdx? (fun y => y.1 == k) = (q.map (·.1)).findIdx? (· == k) := fun q => by rw [List.findIdx?_map]; rfl
  simp only
  rw [e2 (m.set j (n, true)), e, ← e2]
  cases hk : m.findIdx? (fun y => y.1 == k) with
  | none =>
   have hne : (n == k) = false := by
    rw [List.findIdx?_eq_none_iff] at hk
    have := hk _ (List.getElem_mem hj)
    rw [hp] at this; exact this
   simp [hne]
  | some i =>
   obtain ⟨hi, hpi, _⟩ := List.findIdx?_eq_some_iff_getElem.1 hk
   rw [beq_iff_eq] at hpi
   simp only [List.getElem?_set, List.getElem?_eq_getElem hi]
   by_cases hij : j = i
   ·subst hij
    have : (n == k) = true := by rw [beq_iff_eq, ← hp, ← hpi]
    simp [this, hj]
   ·have : (n == k) = false := by
     rw [beq_eq_false_iff_ne]
     rintro rfl
     rw [hf] at hk; cases hk; exact hij rfl
    simp [this, hij]
theorem kBTake_L1_eq (k : Int) : ∀ (xs : List Ask) (m : List (Int × Bool)), ∃ m', kBTake_L1 xs m = some m' ∧ mgetT k false m' = (mgetT k false m || xs.any fun x => x.peer == k)
 | [], m => ⟨m, rfl, by simp⟩
 | x :: xs, m => by
  obtain ⟨m', h1, h2⟩ := kBTake_L1_eq k xs (mputT x.peer true m)
  exact ⟨m', h1, by rw [h2, mget_put, List.any_cons, Bool.or_assoc]⟩
theorem kBGranted_eq (l : Layout) (me : Int) (near : List Near) (frame : Int) (n : Near) (h : n.t.grants.length ≤ 1000) : kBGranted (sideOf l me near frame) (cleanN l n) = some (n.t.grants.filter (mineC l me frame)) := by
 unfold kBGranted
 have hf := List.length_filter_le (fun x => isGrant x l) n.t.grants
 rw [show (fun y0 => some (f106 y0 (sideOf l me near frame))) = fun g : Grant => some (g.peer == me && decide (g.til ≥ frame)) from rfl, f77_eq _ _ (by show (n.t.grants.filter fun x => isGrant x l).length ≤ _; omega)]
 simp only [Option.bind_some, cleanN, List.filter_filter]
 congr 2
 funext g
 exact Bool.and_comm _ _
theorem elt_idx {α : Type} {p : α → Bool} {l : List α} : (match l.find? p with | none => decide (idx p l ≥ 0) = false | some x => decide (idx p l ≥ 0) = true ∧ elt l (idx p l) = some x) := by
 by_cases h : idx p l < 0
 ·rw [find_idx.1 h]; simp; omega
 ·obtain ⟨x, h1, h2⟩ := find_idx.2 h
  rw [h2]
  have h0 : 0 ≤ idx p l := by omega
  exact ⟨by simpa using h0, by simp [elt, h0, h1]⟩
theorem kBTake_L2_eq (l : Layout) (me : Int) {near : List Near} (hn : Few near) (frame : Int) (k : Int) : ∀ (us : List Use) (m : List (Int × Bool)) (acc : List Use), acc.length + us.length ≤ 1000 →
  ∃ m', kBTake_L2 (sideOf l me near frame) us m acc = some (m', acc ++ us.filterMap (keepUse l me near frame)) ∧ mgetT k false m' = (mgetT k false m || us.any fun x => x.peer == k)
 | [], m, acc, _ => ⟨m, by simp [kBTake_L2], by simp⟩
 | u :: us, m, acc, h => by
  simp only [List.length_cons] at h
  have h1 : decide (acc.length + 1 ≤ 4294967296) = true := by simp; omega
  have fin : ∀ acc' : List Use, acc'.length ≤ acc.length + 1 → acc' = acc ++ [u].filterMap (keepUse l me near frame) → ∃ m', kBTake_L2 (sideOf l me near frame) us (mputT u.peer true m) acc' = some (m', acc ++ (u :: us).filterMap (keepUse l me near frame)) ∧ mgetT k false m' = (mgetT k false m || (u :: us).any fun x => x.peer == k) := by
   intro acc' hl e
   obtain ⟨m', h2, h3⟩ := kBTake_L2_eq l me hn frame k us (mputT u.peer true m) acc' (by omega)
   refine ⟨m', by rw [h2, e, List.append_assoc, ← List.filterMap_append]; rfl, by rw [h3, mget_put, List.any_cons, Bool.or_assoc]⟩
  simp only [kBTake_L2, kBFind_eq, Option.bind_some]
  rw [show (sideOf l me near frame).near = near.map (cleanN l) from rfl, findN_clean]
  have ef : (fun y0 => some (f55 y0 ⟨⟨u.cell.slot, u.cell.offset⟩, u.peer, u.stamp⟩)) = fun g : Grant => some (cellEq g.cell u.cell) := rfl
  rw [ef]
  have e0 : ∀ gs : List Grant, (∀ x, x = (gs.find? fun g => cellEq g.cell u.cell) → (x.map fun g => (⟨u.cell, u.peer, g.stamp⟩ : Use)) = keepUse l me near frame u) → ∃ m', (Option.bind (Option.bind (some (idx (fun g : Grant => cellEq g.cell u.cell) gs)) fun v15 => Option.bind (cond (decide (v15 ≥ 0)) (Option.bind (elt gs v15) fun v18 => cond (decide (acc.length + 1 ≤ 4294967296)) (some (acc ++ ([⟨⟨u.cell.slot, u.cell.offset⟩, u.peer, v18.stamp⟩] : List Use))) none) (some acc)) fun v16 => kBTake_L2 (sideOf l me near frame) us (mputT u.peer true m) v16) some) = some (m', acc ++ (u :: us).filterMap (keepUse l me near frame)) ∧ mgetT k false m' = (mgetT k false m || (u :: us).any fun x => x.peer == k) := by
   intro gs hx
   have hi := elt_idx (p := fun g : Grant => cellEq g.cell u.cell) (l := gs)
   have hx := hx _ rfl
   simp only [Option.bind_some, h1, cond_true]
   cases hf : gs.find? fun g => cellEq g.cell u.cell with
   | none =>
    rw [hf] at hi hx
    simp only [hi, cond_false, Option.bind_some]
    obtain ⟨m', h2, h3⟩ := fin acc (by omega) (by rw [List.filterMap_cons, ← hx]; simp)
    exact ⟨m', by rw [h2]; rfl, h3⟩
   | some g =>
    rw [hf] at hi hx
    simp only [hi.1, hi.2, cond_true, Option.bind_some]
    obtain ⟨m', h2, h3⟩ := fin (acc ++ [⟨u.cell, u.peer, g.stamp⟩]) (by simp) (by rw [List.filterMap_cons, ← hx]; simp)
    exact ⟨m', by rw [h2]; rfl, h3⟩
  have bid : ∀ o : Option (List (Int × Bool) × List Use), Option.bind o some = o := fun o => by cases o <;> rfl
  cases hfn : findN near u.peer with
  | none =>
   simp only [Option.map_none]
   have hg : kBGranted (sideOf l me near frame) zeroN = some [] := rfl
   rw [hg]
   simp only [Option.bind_some, f54_eq]
   obtain ⟨m', h2, h3⟩ := e0 [] (fun x hx => by rw [hx]; unfold keepUse grantedC; rw [hfn]; rfl)
   rw [bid] at h2
   exact ⟨m', h2, h3⟩
  | some n =>
   simp only [Option.map_some]
   have hl := hn.2 n (findN_mem hfn).1
   rw [kBGranted_eq l me near frame n (by omega)]
   simp only [Option.bind_some, f54_eq]
   obtain ⟨m', h2, h3⟩ := e0 (n.t.grants.filter (mineC l me frame)) (fun x hx => by rw [hx]; unfold keepUse grantedC; rw [hfn, List.find?_filter]; simp only [Option.bind_some, Bool.decide_and, Bool.decide_eq_true])
   rw [bid] at h2
   exact ⟨m', h2, h3⟩
theorem kBTake_L4_eq (l : Layout) (me frame : Int) (n : Near) : ∀ (gs : List Grant) (t : Table), Mid t →
  kBTake_L4 l (cleanN l n) (gs.filter (mineC l me frame)) t.uses t.grants t.asks = some ((gs.foldl (tStep l me frame n) t).uses, (gs.foldl (tStep l me frame n) t).grants, (gs.foldl (tStep l me frame n) t).asks)
 | [], t, _ => rfl
 | g :: gs, t, hm => by
  have ih := fun t hm => kBTake_L4_eq l me frame n gs t hm
  simp only [List.filter_cons, List.foldl_cons]
  unfold tStep
  cases hi : mineC l me frame g with
  | false => simp only [Bool.false_eq_true, if_false, cond_false]; exact ih t hm
  | true =>
   simp only [if_true, kBTake_L4]
   rw [show (cleanN l n).src = n.src from rfl]
   rw [kCellsAddUse_eq (t := ⟨t.uses, t.grants, t.asks⟩) (by exact hm)]
   have ih2 := ih (addTUse l t ⟨g.cell, n.src, g.stamp⟩) (addTUse_mid hm)
   simp only [cond_true, Option.bind_some]
   unfold addTUse at ih2 ⊢
   show kBTake_L4 l (cleanN l n) _ (cond ((cond (codeTUse l t ⟨g.cell, n.src, g.stamp⟩ == 0) (putTUse t ⟨g.cell, n.src, g.stamp⟩, 0) (⟨[], [], []⟩, codeTUse l t ⟨g.cell, n.src, g.stamp⟩)).2 == 0) _ _) _ _ = _
   cases hc : codeTUse l t ⟨g.cell, n.src, g.stamp⟩ == 0 with
   | true => rw [hc] at ih2; exact ih2
   | false =>
    rw [hc] at ih2
    simp only [cond_false, hc]
    exact ih2
theorem kBTake_L3_eq (l : Layout) (t0 : Table) (me : Int) (near : List Near) (frame : Int) (mu : List (Int × Bool) × List Use) : ∀ (xs : List Near) (t : Table), (∀ n ∈ xs, n.t.grants.length ≤ 40 ∧ mgetT n.src false mu.1 = partnerB t0 n.src) → Mid t →
  kBTake_L3 l (sideOf l me near frame) mu (xs.map (cleanN l)) t.uses t.grants t.asks = some ((xs.foldl (tNear l t0 me frame) t).uses, (xs.foldl (tNear l t0 me frame) t).grants, (xs.foldl (tNear l t0 me frame) t).asks)
 | [], t, _, _ => rfl
 | n :: xs, t, hs, hm => by
  have hn := hs n (by simp)
  have ih := kBTake_L3_eq l t0 me near frame mu xs (tNear l t0 me frame t n) (fun m hm => hs m (List.mem_cons_of_mem _ hm)) (tNear_mid hm)
  simp only [List.map_cons, kBTake_L3, List.foldl_cons]
  rw [show (cleanN l n).src = n.src from rfl, hn.2, kBGranted_eq l me near frame n (by omega)]
  unfold tNear at ih ⊢
  cases hh : partnerB t0 n.src with
  | true =>
   rw [hh] at ih
   simp only [cond_true, Option.bind_some, kBTake_L4_eq l me frame n n.t.grants t hm]
   exact ih
  | false => rw [hh] at ih; exact ih
theorem kBTake_eq (l : Layout) (t : Table) (me : Int) (near : List Near) (frame : Int) (hm : Mid t) (hn : Few near) :
  kBTake l t me near frame = some (cond (validA l t me near frame) (takeT l t me near frame) t) := by
 have hu := hm.u; have hg := hm.g; have ha := hm.a
 unfold kBTake
 rw [kNewSide_eq l t me near frame (by omega) (by omega) (by omega) hn]
 simp only [Option.bind_some]
 cases hv : validA l t me near frame with
 | false => rfl
 | true =>
  obtain ⟨m1, h1, _⟩ := kBTake_L1_eq 0 t.asks []
  have g1 : ∀ k, mgetT k false m1 = t.asks.any fun x => x.peer == k := fun k => by
   obtain ⟨m', h2, h3⟩ := kBTake_L1_eq k t.asks []
   rw [h1] at h2; cases h2
   rw [h3]; rfl
  obtain ⟨m2, h2, _⟩ := kBTake_L2_eq l me hn frame 0 t.uses m1 [] (by simp only [List.length_nil]; omega)
  have g2 : ∀ k, mgetT k false m2 = partnerB t k := fun k => by
   obtain ⟨m', h3, h4⟩ := kBTake_L2_eq l me hn frame k t.uses m1 [] (by simp only [List.length_nil]; omega)
   rw [h2] at h3; cases h3
   rw [h4, g1, Bool.or_comm]; rfl
  have h := kBTake_L3_eq l t me near frame (m2, t.uses.filterMap (keepUse l me near frame)) near (keptT l t me near frame) (fun n h => ⟨(hn.2 n h).2.1, g2 _⟩) (keptT_mid hm)
  simp only [cond_true, h1, Option.bind_some, h2, List.nil_append]
  have h : kBTake_L3 l (sideOf l me near frame) (m2, t.uses.filterMap (keepUse l me near frame)) (sideOf l me near frame).near (t.uses.filterMap (keepUse l me near frame)) t.grants t.asks = _ := h
  rw [h]; rfl
end Go.VM.Tryz
namespace Go.VM.Tryz
theorem head_true : kLhead = some true := by kernel_rfl
theorem possible_find {l : Layout} {t : Table} {me : Int} {near : List Near} {peer : Int} {c : Cell} (h : possible l t me near peer c = true) : ∃ n, findN near peer = some n ∧ busy t c.slot = false ∧ inSlot l n c.slot = false ∧ foreign l near c me = false := by
 unfold possible at h
 cases hn : findN near peer with
 | none => rw [hn] at h; cases h
 | some n =>
  rw [hn] at h
  simp only [Bool.and_eq_true, Bool.not_eq_true', Bool.or_eq_false_iff] at h
  exact ⟨n, rfl, h.1.1, h.1.2, h.2⟩
theorem tried_all {l : Layout} {t : Table} {me : Int} {near : List Near} {peer many frame : Int} (P : Ask → Prop) (h1 : ∀ a ∈ t.asks, a.peer = peer → possible l t me near peer a.cell = true → P a) (h2 : ∀ k : Nat, possible l t me near peer (cellAt l me frame k) = true → P ⟨cellAt l me frame k, peer⟩) : ∀ a ∈ triedAsks l t me near peer many frame, P a := by
 unfold triedAsks
 have h0 : ∀ a ∈ keptAsks l t me near peer many, P a := fun a ha => by
  have := List.mem_of_mem_take ha
  simp only [List.mem_filter, Bool.and_eq_true, beq_iff_eq] at this
  exact h1 a this.1 this.2.1 this.2.2
 generalize keptAsks l t me near peer many = acc at h0
 generalize List.range (16 * l.data).toNat = ks
 induction ks generalizing acc with
 | nil => exact h0
 | cons k ks ih =>
  rw [List.foldl_cons]
  refine ih _ fun a ha => ?_
  unfold askStep at ha
  cases hb : (possible l t me near peer (cellAt l me frame k) && (!(acc.any fun a => a.cell.slot == (cellAt l me frame k).slot) && decide ((acc.length : Int) < many))) with
  | false => rw [hb] at ha; exact h0 a ha
  | true =>
   rw [hb] at ha
   simp only [cond_true, List.mem_append, List.mem_singleton] at ha
   simp only [Bool.and_eq_true] at hb
   rcases ha with ha | rfl
   ·exact h0 a ha
   ·exact h2 k hb.1
theorem near_src {l : Layout} {me : Int} {near : List Near} {frame : Int} (h : nearOk l me near frame = true) {n : Near} (hn : n ∈ near) : 0 ≤ n.src ∧ n.src < l.nodes ∧ n.src ≠ me := by
 have := (chain_none.1 h).1 n hn
 simp only [nearOk1, Bool.and_eq_true, decide_eq_true_eq, bne_iff_ne] at this
 exact ⟨this.1.1, this.1.2, this.2.1⟩
theorem nodup_map_of {α : Type} {sl : α → Int} {l : List α} (h : l.Pairwise fun a b => sl a < sl b) : (l.map sl).Nodup := by
 rw [List.nodup_iff_pairwise_ne, List.pairwise_map]; exact h.imp fun h => by omega
theorem one_iff {t : Table} (us : t.uses.Pairwise fun x y => x.cell.slot < y.cell.slot) (gs : t.grants.Pairwise fun x y => x.cell.slot < y.cell.slot) (ac : t.asks.Pairwise fun x y => x.cell.slot < y.cell.slot) :
  (t.uses.map (·.cell.slot) ++ t.grants.map (·.cell.slot) ++ t.asks.map (·.cell.slot)).Nodup ↔ (∀ u ∈ t.uses, ∀ g ∈ t.grants, u.cell.slot ≠ g.cell.slot) ∧ (∀ a ∈ t.asks, (∀ u ∈ t.uses, u.cell.slot ≠ a.cell.slot) ∧ ∀ g ∈ t.grants, g.cell.slot ≠ a.cell.slot) := by
 rw [List.nodup_append, List.nodup_append]
 simp only [List.mem_map, List.mem_append]
 constructor
 ·rintro ⟨⟨_, _, h1⟩, _, h2⟩
  exact ⟨fun u hu g hg => h1 _ ⟨u, hu, rfl⟩ _ ⟨g, hg, rfl⟩, fun a ha => ⟨fun u hu => h2 _ (.inl ⟨u, hu, rfl⟩) _ ⟨a, ha, rfl⟩, fun g hg => h2 _ (.inr ⟨g, hg, rfl⟩) _ ⟨a, ha, rfl⟩⟩⟩
 ·rintro ⟨h1, h2⟩
  refine ⟨⟨nodup_map_of us, nodup_map_of gs, ?_⟩, nodup_map_of ac, ?_⟩
  ·rintro _ ⟨u, hu, rfl⟩ _ ⟨g, hg, rfl⟩; exact h1 u hu g hg
  ·rintro _ (⟨u, hu, rfl⟩ | ⟨g, hg, rfl⟩) _ ⟨a, ha, rfl⟩
   ·exact (h2 a ha).1 u hu
   ·exact (h2 a ha).2 g hg
theorem ask_valid {l : Layout} {t : Table} {me : Int} {near : List Near} {peer many frame : Int} (h : validA l t me near frame = true) (h0 : 0 ≤ many) (h1 : many ≤ 24) : ValidT l (askT l t me near peer many frame) := by
 obtain ⟨hv, hm0, hm1, hf0, hf1, hn⟩ := validA_parts h
 have ti := tried_inv hv (me := me) (frame := frame) near peer h0 hm0 hf0
 have hmem : ∀ a, a ∈ sortAsk (triedAsks l t me near peer many frame) → a ∈ triedAsks l t me near peer many frame := fun a => (sortS_perm _ _).mem_iff.1
 have hac : (sortAsk (triedAsks l t me near peer many frame)).Pairwise fun x y => x.cell.slot < y.cell.slot := up_sort (sl := fun a : Ask => a.cell.slot) ti.dis
 have hP := tried_all (l := l) (t := t) (me := me) (near := near) (peer := peer) (many := many) (frame := frame) (fun a => isAsk a l = true ∧ busy t a.cell.slot = false)
  (fun a ha _ hp => ⟨hv.a a ha, (possible_find hp).choose_spec.2.1⟩)
  (fun k hp => by
   obtain ⟨n, hf, hb, _⟩ := possible_find hp
   have hs := near_src hn (findN_mem hf).1
   have hc := cellAt_rng (l := l) (me := me) (frame := frame) (k := k) hv.d1 (by omega)
   rw [(findN_mem hf).2] at hs
   refine ⟨?_, hb⟩
   simp only [isAsk, placed, Bool.and_eq_true, decide_eq_true_eq]; omega)
 refine ⟨hv.n1, hv.n2, hv.d1, hv.d2, hv.len, ?_, hv.u, hv.g, fun a ha => (hP a (hmem a ha)).1, hv.us, hv.gs, hac, ?_⟩
 ·have := ti.len; simp only [askT, sortAsk_len]; omega
 ·rw [one_iff (t := askT l t me near peer many frame) hv.us hv.gs hac]
  have ho := (one_iff hv.us hv.gs hv.ac).1 hv.one
  exact ⟨ho.1, fun a ha => busy_false (hP a (hmem a ha)).2⟩
theorem put_validG {l : Layout} {t : Table} {g : Grant} (h : codeTGrant l t g = 0) : ValidT l (putTGrant t g) := by
 obtain ⟨hv, hg, hb, hl⟩ := codeGrant_zero h
 have ho := (one_iff hv.us hv.gs hv.ac).1 hv.one
 obtain ⟨hb1, hb2⟩ := busy_false hb
 have hgs : (insBy (beyondGrant g) g t.grants).Pairwise fun x y => x.cell.slot < y.cell.slot := up_ins (sl := fun x : Grant => x.cell.slot) hv.gs hb2
 have hac : (t.asks.filter fun a => !(a.cell.slot == g.cell.slot)).Pairwise fun x y => x.cell.slot < y.cell.slot := hv.ac.filter _
 refine ⟨hv.n1, hv.n2, hv.d1, hv.d2, ?_, ?_, hv.u, fun x hx => ?_, fun a ha => hv.a a (List.mem_filter.1 ha).1, hv.us, hgs, hac, ?_⟩
 ·simp only [putTGrant, ins_length]; omega
 ·exact Nat.le_trans (List.length_filter_le _ _) hv.alen
 ·rcases mem_ins.1 hx with rfl | hx
  ·exact hg
  ·exact hv.g x hx
 ·rw [one_iff (t := putTGrant t g) hv.us hgs hac]
  refine ⟨fun u hu x hx => ?_, fun a ha => ?_⟩
  ·rcases mem_ins.1 hx with rfl | hx
   ·exact hb1 u hu
   ·exact ho.1 u hu x hx
  ·simp only [putTGrant, List.mem_filter, Bool.not_eq_true', beq_eq_false_iff_ne] at ha
   refine ⟨(ho.2 a ha.1).1, fun x hx => ?_⟩
   rcases mem_ins.1 hx with rfl | hx
   ·exact Ne.symm ha.2
   ·exact (ho.2 a ha.1).2 x hx
theorem put_validU {l : Layout} {t : Table} {g : Use} (h : codeTUse l t g = 0) : ValidT l (putTUse t g) := by
 obtain ⟨hv, hg, hb, hl⟩ := codeUse_zero h
 have ho := (one_iff hv.us hv.gs hv.ac).1 hv.one
 obtain ⟨hb1, hb2⟩ := busy_false hb
 have hus : (insBy (beyondUse g) g t.uses).Pairwise fun x y => x.cell.slot < y.cell.slot := up_ins (sl := fun x : Use => x.cell.slot) hv.us hb1
 have hac : (t.asks.filter fun a => !(a.cell.slot == g.cell.slot)).Pairwise fun x y => x.cell.slot < y.cell.slot := hv.ac.filter _
 refine ⟨hv.n1, hv.n2, hv.d1, hv.d2, ?_, ?_, fun x hx => ?_, hv.g, fun a ha => hv.a a (List.mem_filter.1 ha).1, hus, hv.gs, hac, ?_⟩
 ·simp only [putTUse, ins_length]; omega
 ·exact Nat.le_trans (List.length_filter_le _ _) hv.alen
 ·rcases mem_ins.1 hx with rfl | hx
  ·exact hg
  ·exact hv.u x hx
 ·rw [one_iff (t := putTUse t g) hus hv.gs hac]
  refine ⟨fun u hu x hx => ?_, fun a ha => ?_⟩
  ·rcases mem_ins.1 hu with rfl | hu
   ·exact Ne.symm (hb2 x hx)
   ·exact ho.1 u hu x hx
  ·simp only [putTUse, List.mem_filter, Bool.not_eq_true', beq_eq_false_iff_ne] at ha
   refine ⟨fun x hx => ?_, (ho.2 a ha.1).2⟩
   rcases mem_ins.1 hx with rfl | hx
   ·exact Ne.symm ha.2
   ·exact (ho.2 a ha.1).1 x hx
theorem renew_til (l : Layout) (me : Int) (near : List Near) (frame : Int) (g : Grant) : (renew l me near frame g).til = g.til ∨ ((renew l me near frame g).til = maxI g.til (frame + 8) ∧ ∃ n, findN near g.peer = some n ∧ heard n frame = true ∧ tellsC l n g.cell me = true) := by
 unfold renew
 cases hn : findN near g.peer with
 | none => exact .inl rfl
 | some n =>
  simp only
  cases hh : heard n frame with
  | false => exact .inl rfl
  | true =>
   cases ht : tellsC l n g.cell me with
   | false => exact .inl rfl
   | true => exact .inr ⟨rfl, n, rfl, hh, ht⟩
theorem renew_le (l : Layout) (me : Int) (near : List Near) (frame : Int) (g : Grant) : g.til ≤ (renew l me near frame g).til ∧ (renew l me near frame g).til ≤ max g.til (frame + 8) := by
 rcases renew_til l me near frame g with h | ⟨h, _⟩
 ·rw [h]; omega
 ·rw [h]; unfold maxI; split <;> omega
theorem left_valid {l : Layout} {t : Table} {me : Int} {near : List Near} {frame : Int} (hv : ValidT l t) (hf : frame ≤ 999999992) : ValidT l (leftT l t me near frame) := by
 have hmem : ∀ g, g ∈ (leftT l t me near frame).grants → ∃ g' ∈ t.grants, g'.til ≥ frame ∧ g = renew l me near frame g' := fun g hg => by
  simp only [leftT, List.mem_map, List.mem_filter, decide_eq_true_eq] at hg
  obtain ⟨g', ⟨h1, h2⟩, rfl⟩ := hg
  exact ⟨g', h1, h2, rfl⟩
 have hgs : (leftT l t me near frame).grants.Pairwise fun x y => x.cell.slot < y.cell.slot := by
  simp only [leftT]; rw [List.pairwise_map]; exact hv.gs.filter _
 have ho := (one_iff hv.us hv.gs hv.ac).1 hv.one
 refine ⟨hv.n1, hv.n2, hv.d1, hv.d2, ?_, hv.alen, hv.u, fun g hg => ?_, hv.a, hv.us, hgs, hv.ac, ?_⟩
 ·have := hv.len
  have hf := List.length_filter_le (fun g : Grant => decide (g.til ≥ frame)) t.grants
  simp only [leftT, List.length_map]; omega
 ·obtain ⟨g', h1, h2, rfl⟩ := hmem g hg
  have h3 := hv.g g' h1
  have h4 := renew_le l me near frame g'
  simp only [isGrant, Bool.and_eq_true, decide_eq_true_eq] at h3 ⊢
  refine ⟨h3.1, h3.2.1, ?_, ?_⟩
  ·have := h3.2.2.1; show g'.stamp ≤ _; omega
  ·omega
 ·rw [one_iff (t := leftT l t me near frame) hv.us hgs hv.ac]
  refine ⟨fun u hu g hg => ?_, fun a ha => ⟨(ho.2 a ha).1, fun g hg => ?_⟩⟩
  ·obtain ⟨g', h1, h2, rfl⟩ := hmem g hg; exact ho.1 u hu g' h1
  ·obtain ⟨g', h1, h2, rfl⟩ := hmem g hg; exact (ho.2 a ha).2 g' h1
theorem grant_ind {l : Layout} {me : Int} {near : List Near} {frame : Int} (P : Table → Prop) (hP : ∀ n ∈ near, heard n frame = true → ∀ a ∈ n.t.asks, isAsk a l = true → a.peer = me → usedC l near a.cell n.src = false → ∀ t, P t → codeTGrant l t ⟨a.cell, n.src, frame, frame + 8⟩ = 0 → P (putTGrant t ⟨a.cell, n.src, frame, frame + 8⟩)) :
  ∀ t, P t → P (near.foldl (gNear l me near frame) t) := by
 have inner : ∀ n ∈ near, heard n frame = true → ∀ zs : List Ask, (∀ a ∈ zs, a ∈ n.t.asks) → ∀ t, P t → P (zs.foldl (gStep l me near frame n) t) := by
  intro n hn hh zs
  induction zs with
  | nil => intro _ t h; exact h
  | cons a zs ih =>
   intro hz t h
   rw [List.foldl_cons]
   refine ih (fun b hb => hz b (List.mem_cons_of_mem _ hb)) _ ?_
   unfold gStep
   cases hc : (isAsk a l && (a.peer == me && !usedC l near a.cell n.src)) with
   | false => exact h
   | true =>
    simp only [Bool.and_eq_true, beq_iff_eq, Bool.not_eq_true'] at hc
    unfold addTGrant
    simp only [cond_true]
    cases hz0 : codeTGrant l t ⟨a.cell, n.src, frame, frame + 8⟩ == 0 with
    | false => exact h
    | true => exact hP n hn hh a (hz a (by simp)) hc.1 hc.2.1 hc.2.2 t h (by simpa using hz0)
 have outer : ∀ xs : List Near, (∀ n ∈ xs, n ∈ near) → ∀ t, P t → P (xs.foldl (gNear l me near frame) t) := by
  intro xs
  induction xs with
  | nil => intro _ t h; exact h
  | cons n xs ih =>
   intro hs t h
   rw [List.foldl_cons]
   refine ih (fun b hb => hs b (List.mem_cons_of_mem _ hb)) _ ?_
   unfold gNear
   cases hh : heard n frame with
   | false => exact h
   | true => exact inner n (hs n (by simp)) hh _ (fun _ h => h) t h
 exact outer near (fun _ h => h)
theorem take_ind {l : Layout} {t0 : Table} {me frame : Int} {near : List Near} (P : Table → Prop) (hP : ∀ n ∈ near, partnerB t0 n.src = true → ∀ g ∈ n.t.grants, mineC l me frame g = true → ∀ t, P t → codeTUse l t ⟨g.cell, n.src, g.stamp⟩ = 0 → P (putTUse t ⟨g.cell, n.src, g.stamp⟩)) :
  ∀ t, P t → P (near.foldl (tNear l t0 me frame) t) := by
 have inner : ∀ n ∈ near, partnerB t0 n.src = true → ∀ zs : List Grant, (∀ a ∈ zs, a ∈ n.t.grants) → ∀ t, P t → P (zs.foldl (tStep l me frame n) t) := by
  intro n hn hh zs
  induction zs with
  | nil => intro _ t h; exact h
  | cons a zs ih =>
   intro hz t h
   rw [List.foldl_cons]
   refine ih (fun b hb => hz b (List.mem_cons_of_mem _ hb)) _ ?_
   unfold tStep
   cases hc : mineC l me frame a with
   | false => exact h
   | true =>
    unfold addTUse
    simp only [cond_true]
    cases hz0 : codeTUse l t ⟨a.cell, n.src, a.stamp⟩ == 0 with
    | false => exact h
    | true => exact hP n hn hh a (hz a (by simp)) hc t h (by simpa using hz0)
 have outer : ∀ xs : List Near, (∀ n ∈ xs, n ∈ near) → ∀ t, P t → P (xs.foldl (tNear l t0 me frame) t) := by
  intro xs
  induction xs with
  | nil => intro _ t h; exact h
  | cons n xs ih =>
   intro hs t h
   rw [List.foldl_cons]
   refine ih (fun b hb => hs b (List.mem_cons_of_mem _ hb)) _ ?_
   unfold tNear
   cases hh : partnerB t0 n.src with
   | false => exact h
   | true => exact inner n (hs n (by simp)) hh _ (fun _ h => h) t h
 exact outer near (fun _ h => h)
theorem grant_valid {l : Layout} {t : Table} {me : Int} {near : List Near} {frame : Int} (h : validA l t me near frame = true) : ValidT l (grantT l t me near frame) ∧ (grantT l t me near frame).uses = t.uses := by
 obtain ⟨hv, _, _, _, hf1, _⟩ := validA_parts h
 exact grant_ind (fun t' => ValidT l t' ∧ t'.uses = t.uses) (fun n _ _ a _ _ _ _ t' ht hc => ⟨put_validG hc, ht.2⟩) _ ⟨left_valid hv hf1, rfl⟩
theorem keepUse_some {l : Layout} {me : Int} {near : List Near} {frame : Int} {u v : Use} (h : keepUse l me near frame u = some v) : v.cell = u.cell ∧ v.peer = u.peer ∧ ∃ n ∈ near, n.src = u.peer ∧ ∃ g ∈ n.t.grants, mineC l me frame g = true ∧ g.cell = u.cell ∧ v.stamp = g.stamp := by
 unfold keepUse grantedC at h
 rw [Option.map_eq_some_iff] at h
 obtain ⟨g, hg, rfl⟩ := h
 rw [Option.bind_eq_some_iff] at hg
 obtain ⟨n, hn, hg⟩ := hg
 have h1 := List.find?_some hg
 simp only [Bool.and_eq_true, cellEq_iff] at h1
 exact ⟨rfl, rfl, n, (findN_mem hn).1, (findN_mem hn).2, g, List.mem_of_find?_eq_some hg, h1.1, h1.2, rfl⟩
theorem kept_valid {l : Layout} {t : Table} {me : Int} {near : List Near} {frame : Int} (hv : ValidT l t) : ValidT l (keptT l t me near frame) := by
 have ho := (one_iff hv.us hv.gs hv.ac).1 hv.one
 have hus : (keptT l t me near frame).uses.Pairwise fun x y => x.cell.slot < y.cell.slot := by
  simp only [keptT]
  rw [List.pairwise_filterMap]
  refine hv.us.imp fun h b hb b' hb' => ?_
  rw [(keepUse_some hb).1, (keepUse_some hb').1]; exact h
 have hmem : ∀ v, v ∈ (keptT l t me near frame).uses → ∃ u ∈ t.uses, keepUse l me near frame u = some v := fun v hv => by
  simpa [keptT, List.mem_filterMap] using hv
 refine ⟨hv.n1, hv.n2, hv.d1, hv.d2, ?_, hv.alen, fun v hv' => ?_, hv.g, hv.a, hus, hv.gs, hv.ac, ?_⟩
 ·have := hv.len
  have hf := List.length_filterMap_le (keepUse l me near frame) t.uses
  simp only [keptT]; omega
 ·obtain ⟨u, hu, hk⟩ := hmem v hv'
  obtain ⟨h1, h2, n, _, _, g, _, hm, hc, hs⟩ := keepUse_some hk
  have h3 := hv.u u hu
  simp only [mineC, isGrant, Bool.and_eq_true, decide_eq_true_eq] at hm
  simp only [isUse, Bool.and_eq_true, decide_eq_true_eq] at h3 ⊢
  rw [h1, h2, hs]
  exact ⟨h3.1, hm.1.2.1, by omega⟩
 ·rw [one_iff (t := keptT l t me near frame) hus hv.gs hv.ac]
  refine ⟨fun v hv' g hg => ?_, fun a ha => ⟨fun v hv' => ?_, (ho.2 a ha).2⟩⟩
  ·obtain ⟨u, hu, hk⟩ := hmem v hv'
   rw [(keepUse_some hk).1]; exact ho.1 u hu g hg
  ·obtain ⟨u, hu, hk⟩ := hmem v hv'
   rw [(keepUse_some hk).1]; exact (ho.2 a ha).1 u hu
theorem take_valid {l : Layout} {t : Table} {me : Int} {near : List Near} {frame : Int} (h : validA l t me near frame = true) : ValidT l (takeT l t me near frame) ∧ (takeT l t me near frame).grants = t.grants := by
 obtain ⟨hv, _⟩ := validA_parts h
 exact take_ind (fun t' => ValidT l t' ∧ t'.grants = t.grants) (fun n _ _ a _ _ t' ht hc => ⟨put_validU hc, ht.2⟩) _ ⟨kept_valid hv, rfl⟩
end Go.VM.Tryz
namespace Go.VM.Tryz
theorem ge_cell {a b : Cell} : ((a.slot == b.slot) && ((a.offset == b.offset) && true)) = cellEq a b := rfl
theorem take_granted {l : Layout} {t : Table} {me : Int} {near : List Near} {frame : Int} : ∀ u ∈ (takeT l t me near frame).uses, ∃ n ∈ near, n.src = u.peer ∧ ∃ g ∈ n.t.grants, g.cell = u.cell ∧ g.peer = me ∧ g.til ≥ frame ∧ g.stamp = u.stamp := by
 refine take_ind (fun t' => ∀ u ∈ t'.uses, ∃ n ∈ near, n.src = u.peer ∧ ∃ g ∈ n.t.grants, g.cell = u.cell ∧ g.peer = me ∧ g.til ≥ frame ∧ g.stamp = u.stamp) (fun n hn _ g hg hm t' ht _ u hu => ?_) _ (fun v hv => ?_)
 ·rcases mem_ins.1 hu with rfl | hu
  ·simp only [mineC, Bool.and_eq_true, beq_iff_eq, decide_eq_true_eq] at hm
   exact ⟨n, hn, rfl, g, hg, rfl, hm.2.1, hm.2.2, rfl⟩
  ·exact ht u hu
 ·simp only [keptT, List.mem_filterMap] at hv
  obtain ⟨u, _, hk⟩ := hv
  obtain ⟨h1, h2, n, hn, h3, g, hg, hm, h4, h5⟩ := keepUse_some hk
  simp only [mineC, Bool.and_eq_true, beq_iff_eq, decide_eq_true_eq] at hm
  exact ⟨n, hn, by rw [h3, h2], g, hg, by rw [h4, h1], hm.2.1, hm.2.2, h5.symm⟩
theorem src_unique {l : Layout} {me : Int} {near : List Near} {frame : Int} (h : nearOk l me near frame = true) {n m : Near} (hn : n ∈ near) (hm : m ∈ near) (e : n.src = m.src) : n = m := by
 have hp := (chain_none.1 h).2
 rw [List.pairwise_iff_getElem] at hp
 obtain ⟨i, hi, rfl⟩ := List.getElem_of_mem hn
 obtain ⟨j, hj, rfl⟩ := List.getElem_of_mem hm
 rcases Nat.lt_trichotomy i j with h | h | h
 ·have := hp i j hi hj h; omega
 ·subst h; rfl
 ·have := hp j i hj hi h; omega
theorem ask_good {l : Layout} {t : Table} {me : Int} {near : List Near} {peer many frame : Int} (h : validA l t me near frame = true) : ∀ a ∈ (askT l t me near peer many frame).asks, foreign l near a.cell me = false ∧ busy t a.cell.slot = false ∧ a.peer = peer ∧ ∀ n ∈ near, n.src = peer → inSlot l n a.cell.slot = false := by
 obtain ⟨hv, _, _, _, _, hn⟩ := validA_parts h
 intro a ha
 have ha : a ∈ triedAsks l t me near peer many frame := (sortS_perm _ _).mem_iff.1 ha
 have key : ∀ c : Cell, possible l t me near peer c = true → foreign l near c me = false ∧ busy t c.slot = false ∧ ∀ n ∈ near, n.src = peer → inSlot l n c.slot = false := fun c hp => by
  obtain ⟨n, h1, h2, h3, h4⟩ := possible_find hp
  refine ⟨h4, h2, fun m hm e => ?_⟩
  obtain ⟨h5, h6⟩ := findN_mem h1
  rw [src_unique hn hm h5 (e.trans h6.symm)]; exact h3
 exact tried_all (l := l) (t := t) (me := me) (near := near) (peer := peer) (many := many) (frame := frame) (fun a => foreign l near a.cell me = false ∧ busy t a.cell.slot = false ∧ a.peer = peer ∧ ∀ n ∈ near, n.src = peer → inSlot l n a.cell.slot = false)
  (fun a _ hp h => ⟨(key _ h).1, (key _ h).2.1, hp, (key _ h).2.2⟩) (fun k h => ⟨(key _ h).1, (key _ h).2.1, rfl, (key _ h).2.2⟩) a ha
theorem grant_from {l : Layout} {t : Table} {me : Int} {near : List Near} {frame : Int} : ∀ g ∈ (grantT l t me near frame).grants, (∃ g' ∈ t.grants, g'.til ≥ frame ∧ g = renew l me near frame g') ∨
  (g.stamp = frame ∧ g.til = frame + 8 ∧ ∃ n ∈ near, n.src = g.peer ∧ heard n frame = true ∧ asksC l n g.cell me = true ∧ usedC l near g.cell n.src = false) := by
 refine grant_ind (fun t' => ∀ g ∈ t'.grants, (∃ g' ∈ t.grants, g'.til ≥ frame ∧ g = renew l me near frame g') ∨
  (g.stamp = frame ∧ g.til = frame + 8 ∧ ∃ n ∈ near, n.src = g.peer ∧ heard n frame = true ∧ asksC l n g.cell me = true ∧ usedC l near g.cell n.src = false)) (fun n hn hh a ha hi hp hu t' ht _ g hg => ?_) _ (fun g hg => ?_)
 ·rcases mem_ins.1 hg with rfl | hg
  ·refine .inr ⟨rfl, rfl, n, hn, rfl, hh, ?_, hu⟩
   unfold asksC
   rw [List.any_eq_true]
   refine ⟨a, ha, ?_⟩
   show (isAsk a l && (cellEq a.cell a.cell && a.peer == me)) = true
   simp [hi, hp, cellEq]
  ·exact ht g hg
 ·simp only [leftT, List.mem_map, List.mem_filter, decide_eq_true_eq] at hg
  obtain ⟨g', ⟨h1, h2⟩, rfl⟩ := hg
  exact .inl ⟨g', h1, h2, rfl⟩
theorem grant_keeps {l : Layout} {t : Table} {me : Int} {near : List Near} {frame : Int} {g : Grant} (hg : g ∈ t.grants) (ht : g.til ≥ frame) : renew l me near frame g ∈ (grantT l t me near frame).grants := by
 refine grant_ind (fun t' => renew l me near frame g ∈ t'.grants) (fun n _ _ a _ _ _ _ t' h _ => mem_ins.2 (.inr h)) _ ?_
 simp only [leftT, List.mem_map, List.mem_filter, decide_eq_true_eq]
 exact ⟨g, ⟨hg, ht⟩, rfl⟩
theorem few_nil : Few [] := ⟨by simp, fun n hn => by simp at hn⟩
theorem valid_mid {l : Layout} {t : Table} (h : ValidT l t) : Mid t := by
 have := h.len; have := h.alen
 exact ⟨by omega, by omega, by omega⟩
end Go.VM.Tryz
namespace Go.VM.Tryz
set_option linter.unusedSectionVars false
theorem told_eq (a : Int) (t : Table) (frame : Int) : told a t frame = [⟨frame, a, t, noRest⟩] := rfl
structure Pair (l : Layout) (frame : Int) (p : TPair) : Prop where
 lv : ValidT l p.listener
 sv : ValidT l p.sender
 bl : p.byListener = [] ∨ ∃ t f, p.byListener = told 1 t f ∧ ValidT l t ∧ 0 ≤ f ∧ f ≤ frame
 bs : p.bySender = [] ∨ ∃ t f, p.bySender = told 0 t f ∧ ValidT l t ∧ 0 ≤ f ∧ f ≤ frame
theorem validA_two {l : Layout} (hl : l.nodes = 2) {t : Table} (hv : ValidT l t) {me : Int} (hm : me = 0 ∨ me = 1) {near : List Near} {frame : Int} (hf0 : 0 ≤ frame) (hf1 : frame ≤ 999999992)
  (hn : near = [] ∨ ∃ t f, near = told (1 - me) t f ∧ ValidT l t ∧ 0 ≤ f ∧ f ≤ frame) : validA l t me near frame = true := by
 simp only [validA, Bool.and_eq_true, decide_eq_true_eq, validT_iff]
 refine ⟨hv, ⟨by omega, by omega⟩, ⟨hf0, hf1⟩, ?_⟩
 rcases hn with rfl | ⟨t', f, rfl, _, h0, h1⟩
 ·rfl
 ·simp only [nearOk, told_eq, chain, prevOk_none, Bool.and_true, nearOk1, Bool.and_eq_true, decide_eq_true_eq, bne_iff_ne]
  omega
theorem few_two {l : Layout} {near : List Near} {a : Int} {frame : Int} (hn : near = [] ∨ ∃ t f, near = told a t f ∧ ValidT l t ∧ 0 ≤ f ∧ f ≤ frame) : Few near := by
 rcases hn with rfl | ⟨t', f, rfl, hv, _⟩
 ·exact few_nil
 ·have := hv.len; have := hv.alen
  refine ⟨by simp [told_eq], fun n hn => ?_⟩
  simp only [told_eq, List.mem_singleton] at hn
  subst hn
  simp only
  omega
noncomputable def nextP (l : Layout) (frame : Int) (down up : Bool) (p : TPair) : TPair :=
 let b := cond down (told 0 p.listener frame) p.bySender
 let s := takeT l p.sender 1 b frame
 ⟨p.listener, s, cond up (told 1 s frame) p.byListener, b⟩
noncomputable def turnP (l : Layout) (frame many : Int) (p : TPair) : TPair := ⟨grantT l p.listener 0 p.byListener frame, askT l p.sender 1 p.bySender 0 many frame, p.byListener, p.bySender⟩
section
variable {l : Layout} (hl : l.nodes = 2) {frame : Int} (hf0 : 0 ≤ frame) (hf1 : frame ≤ 999999990) {p : TPair} (hp : Pair l frame p)
include hl hf0 hf1 hp
theorem bs_next (down : Bool) : (cond down (told 0 p.listener frame) p.bySender) = [] ∨ ∃ t f, (cond down (told 0 p.listener frame) p.bySender) = told 0 t f ∧ ValidT l t ∧ 0 ≤ f ∧ f ≤ frame := by
 cases down with
 | false => exact hp.bs
 | true => exact .inr ⟨_, _, rfl, hp.lv, hf0, Int.le_refl _⟩
theorem kPairNext_eq (many : Int) (down up : Bool) : kPairNext p l frame many down up = some (nextP l frame down up p) ∧ Pair l frame (nextP l frame down up p) := by
 have hb := bs_next hl hf0 hf1 hp down
 have hva := validA_two hl hp.sv (me := 1) (.inr rfl) hf0 (by omega) hb
 have hs := (take_valid hva).1
 refine ⟨?_, hp.lv, hs, ?_, hb⟩
 ·unfold kPairNext nextP
  have h := kBTake_eq l p.sender 1 (cond down (told 0 p.listener frame) p.bySender) frame (valid_mid hp.sv) (few_two hb)
  rw [hva] at h
  cases down with
  | true => simp only [cond_true, lt, Option.bind_some] at h ⊢; rw [h]; cases up <;> rfl
  | false => simp only [cond_false, Option.bind_some] at h ⊢; rw [h]; cases up <;> rfl
 ·unfold nextP
  cases up with
  | false => exact hp.bl
  | true => exact .inr ⟨_, _, rfl, hs, hf0, Int.le_refl _⟩
theorem kPairTurn_eq {many : Int} (hm0 : 0 ≤ many) (hm1 : many ≤ 24) : kPairTurn p l frame many = some (turnP l frame many p) ∧ Pair l (frame + 1) (turnP l frame many p) := by
 have hva := validA_two hl hp.lv (me := 0) (.inl rfl) hf0 (by omega) hp.bl
 have hvb := validA_two hl hp.sv (me := 1) (.inr rfl) hf0 (by omega) hp.bs
 have fb : Few p.bySender := few_two hp.bs
 have a1 := hp.sv.len; have a2 := hp.sv.alen
 have hm : (decide (0 ≤ many) && decide (many ≤ 24)) = true := by simp only [Bool.and_eq_true, decide_eq_true_eq]; exact ⟨hm0, hm1⟩
 refine ⟨?_, (grant_valid hva).1, ask_valid hvb hm0 hm1, ?_, ?_⟩
 ·unfold kPairTurn turnP
  rw [kBGrant_eq l p.listener 0 p.byListener frame (valid_mid hp.lv) (few_two hp.bl), kBAsk_eq l p.sender 1 p.bySender 0 many frame ⟨by omega, by omega, by omega, fb⟩, hva, hvb, hm]
  rfl
 ·rcases hp.bl with h | ⟨t, f, h1, h2, h3, h4⟩
  ·exact .inl h
  ·exact .inr ⟨t, f, h1, h2, h3, by omega⟩
 ·rcases hp.bs with h | ⟨t, f, h1, h2, h3, h4⟩
  ·exact .inl h
  ·exact .inr ⟨t, f, h1, h2, h3, by omega⟩
end
end Go.VM.Tryz
