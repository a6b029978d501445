/-
  Proved: BargainMatchesReferenceUptoSaid, for every input whose bulk is at most 1048576 values; no further condition. (This text is one part of the proof.)
-/
import Derived.Test.YthegffpdongaoaaGreatV02
import Derived.Test.YthegffpdongaoaaGreatV01
namespace Go.VM.Tryz
open Go.Proofs
def r12Cell (a0 : Cell) (peer : Int) (a2 : Layout) : Bool := ((decide (a0.slot ≥ 0)) && ((decide (a0.slot < a2.data)) && ((decide (a0.offset ≥ 0)) && ((decide (a0.offset < 16)) && ((decide (peer ≥ 0)) && (decide (peer < a2.nodes)))))))
theorem r12Cell_ok (a0 : Cell) (peer : Int) (a2 : Layout) (r : Bool) (h : r12Cell a0 peer a2 = r) : PCalls Tryz.prog 62 [encCell a0, I peer, encLayout a2] (B r) := by
 unfold r12Cell at h
 refine xe 37 Tryz.func62 ?_
 refine xsr ?_
 refine xa ?_
 refine xa ?_
 refine xp ?_
 refine xq ?_
 refine vc_seq ?_
 refine xk [] [(1, .d (I peer)), (3, .d (.ptr [I a0.slot, I a0.offset])), (5, .d (.ptr [I a2.nodes, I a2.data]))] .nil (xh1 ⟨.z (.own' rfl (.cons .d (.cons .d .nil))) .refl, ⟨.z (.own' rfl (.cons .d (.cons .d .nil))) .refl, trivial⟩⟩) ?_
 refine vc_midQ [(6, .d (B ((decide (a0.slot ≥ 0)) && ((decide (a0.slot < a2.data)) && ((decide (a0.offset ≥ 0)) && ((decide (a0.offset < 16)) && ((decide (peer ≥ 0)) && (decide (peer < a2.nodes)))))))))] [] ?_ ?_
 ·refine xr ?_
  iterate 4 refine xp ?_
  cases c1 : decide (a0.slot ≥ 0) with
  | true =>
   iterate 7 refine xp ?_
   cases c2 : decide (a0.slot < a2.data) with
   | true =>
    iterate 5 refine xp ?_
    cases c3 : decide (a0.offset ≥ 0) with
    | true =>
     iterate 5 refine xp ?_
     cases c4 : decide (a0.offset < 16) with
     | true =>
      iterate 4 refine xp ?_
      cases c5 : decide (peer ≥ 0) with
      | true =>
       iterate 6 refine xp ?_
       refine xq ?_
       exact xm [] .nil (xh1 trivial)
      | false =>
       iterate 4 refine xs ?_
       iterate 2 refine xp ?_
       refine xq ?_
       exact xm [] .nil (xh1 trivial)
     | false =>
      iterate 2 refine xs ?_
      iterate 2 refine xp ?_
      iterate 4 refine xs ?_
      iterate 2 refine xp ?_
      refine xq ?_
      exact xm [] .nil (xh1 trivial)
    | false =>
     iterate 3 refine xs ?_
     iterate 2 refine xp ?_
     iterate 2 refine xs ?_
     iterate 2 refine xp ?_
     iterate 4 refine xs ?_
     iterate 2 refine xp ?_
     refine xq ?_
     exact xm [] .nil (xh1 trivial)
   | false =>
    iterate 3 refine xs ?_
    iterate 2 refine xp ?_
    iterate 3 refine xs ?_
    iterate 2 refine xp ?_
    iterate 2 refine xs ?_
    iterate 2 refine xp ?_
    iterate 4 refine xs ?_
    iterate 2 refine xp ?_
    refine xq ?_
    exact xm [] .nil (xh1 trivial)
  | false =>
   iterate 5 refine xs ?_
   iterate 2 refine xp ?_
   iterate 3 refine xs ?_
   iterate 2 refine xp ?_
   iterate 3 refine xs ?_
   iterate 2 refine xp ?_
   iterate 2 refine xs ?_
   iterate 2 refine xp ?_
   iterate 4 refine xs ?_
   iterate 2 refine xp ?_
   refine xq ?_
   exact xm [] .nil (xh1 trivial)
 ·refine vc_ret ⟨.inr rfl, [B ((decide (a0.slot ≥ 0)) && ((decide (a0.slot < a2.data)) && ((decide (a0.offset ≥ 0)) && ((decide (a0.offset < 16)) && ((decide (peer ≥ 0)) && (decide (peer < a2.nodes)))))))], (.cons rfl ⟨_, .d, .refl⟩ .nil), ?_⟩
  first | (rw [← h]; done) | (rw [← h]; rfl) | (rw [← h]; simp)
def r12Use (a0 : Use) (a1 : Layout) : Bool := ((r12Cell a0.cell a0.peer a1) && ((decide (a0.stamp ≥ 0)) && (decide (a0.stamp ≤ 1000000000))))
theorem r12Use_ok (a0 : Use) (a1 : Layout) (r : Bool) (h : r12Use a0 a1 = r) : PCalls Tryz.prog 71 [encUse a0, encLayout a1] (B r) := by
 unfold r12Use at h
 refine xe 21 Tryz.func71 ?_
 refine xsr ?_
 refine xa ?_
 refine xa ?_
 refine xp ?_
 refine xq ?_
 refine vc_seq ?_
 refine xk [] [(2, .d (.ptr (encUse a0).cells)), (3, .d (.ptr [I a1.nodes, I a1.data]))] .nil ⟨.z (.own' rfl (.cons .d (.cons .d (.cons .d (.cons .d .nil))))) .refl, .z (.own' rfl (.cons .d (.cons .d .nil))) .refl, trivial⟩ ?_
 refine vc_midQ [(4, .d (B ((r12Cell a0.cell a0.peer a1) && ((decide (a0.stamp ≥ 0)) && (decide (a0.stamp ≤ 1000000000))))))] [] ?_ ?_
 ·refine xr ?_
  iterate 5 refine xp ?_
  refine xc (r12Cell_ok a0.cell a0.peer a1 _ rfl) ?_
  refine xp ?_
  cases c1 : (r12Cell a0.cell a0.peer a1) with
  | true =>
   iterate 5 refine xp ?_
   cases c2 : decide (a0.stamp ≥ 0) with
   | true =>
    iterate 5 refine xp ?_
    refine xq ?_
    exact xm [] .nil (xh1 trivial)
   | false =>
    iterate 3 refine xs ?_
    iterate 2 refine xp ?_
    refine xq ?_
    exact xm [] .nil (xh1 trivial)
  | false =>
   iterate 3 refine xs ?_
   iterate 2 refine xp ?_
   iterate 3 refine xs ?_
   iterate 2 refine xp ?_
   refine xq ?_
   exact xm [] .nil (xh1 trivial)
 ·refine vc_ret ⟨.inr rfl, [B ((r12Cell a0.cell a0.peer a1) && ((decide (a0.stamp ≥ 0)) && (decide (a0.stamp ≤ 1000000000))))], (.cons rfl ⟨_, .d, .refl⟩ .nil), ?_⟩
  first | (rw [← h]; done) | (rw [← h]; rfl) | (rw [← h]; simp)
def r12Grant (a0 : Grant) (a1 : Layout) : Bool := ((r12Cell a0.cell a0.peer a1) && ((decide (a0.stamp ≥ 0)) && ((decide (a0.stamp ≤ a0.til)) && (decide (a0.til ≤ 1000000000)))))
theorem r12Grant_ok (a0 : Grant) (a1 : Layout) (r : Bool) (h : r12Grant a0 a1 = r) : PCalls Tryz.prog 72 [encGrant a0, encLayout a1] (B r) := by
 unfold r12Grant at h
 refine xe 28 Tryz.func72 ?_
 refine xsr ?_
 refine xa ?_
 refine xa ?_
 refine xp ?_
 refine xq ?_
 refine vc_seq ?_
 refine xk [] [(2, .d (.ptr (encGrant a0).cells)), (3, .d (.ptr [I a1.nodes, I a1.data]))] .nil ⟨.z (.own' rfl (.cons .d (.cons .d (.cons .d (.cons .d (.cons .d .nil)))))) .refl, .z (.own' rfl (.cons .d (.cons .d .nil))) .refl, trivial⟩ ?_
 refine vc_midQ [(4, .d (B ((r12Cell a0.cell a0.peer a1) && ((decide (a0.stamp ≥ 0)) && ((decide (a0.stamp ≤ a0.til)) && (decide (a0.til ≤ 1000000000)))))))] [] ?_ ?_
 ·refine xr ?_
  iterate 5 refine xp ?_
  refine xc (r12Cell_ok a0.cell a0.peer a1 _ rfl) ?_
  refine xp ?_
  cases c1 : (r12Cell a0.cell a0.peer a1) with
  | true =>
   iterate 5 refine xp ?_
   cases c2 : decide (a0.stamp ≥ 0) with
   | true =>
    iterate 7 refine xp ?_
    cases c3 : decide (a0.stamp ≤ a0.til) with
    | true =>
     iterate 5 refine xp ?_
     refine xq ?_
     exact xm [] .nil (xh1 trivial)
    | false =>
     iterate 3 refine xs ?_
     iterate 2 refine xp ?_
     refine xq ?_
     exact xm [] .nil (xh1 trivial)
   | false =>
    iterate 5 refine xs ?_
    iterate 2 refine xp ?_
    iterate 3 refine xs ?_
    iterate 2 refine xp ?_
    refine xq ?_
    exact xm [] .nil (xh1 trivial)
  | false =>
   iterate 3 refine xs ?_
   iterate 2 refine xp ?_
   iterate 5 refine xs ?_
   iterate 2 refine xp ?_
   iterate 3 refine xs ?_
   iterate 2 refine xp ?_
   refine xq ?_
   exact xm [] .nil (xh1 trivial)
 ·refine vc_ret ⟨.inr rfl, [B ((r12Cell a0.cell a0.peer a1) && ((decide (a0.stamp ≥ 0)) && ((decide (a0.stamp ≤ a0.til)) && (decide (a0.til ≤ 1000000000)))))], (.cons rfl ⟨_, .d, .refl⟩ .nil), ?_⟩
  first | (rw [← h]; done) | (rw [← h]; rfl) | (rw [← h]; simp)
def r12Layout (a0 : Layout) : Bool := ((decide (a0.nodes ≥ 1)) && ((decide (a0.nodes ≤ 60)) && ((decide (a0.data ≥ 1)) && (decide (a0.data ≤ 60)))))
theorem r12Layout_ok (a0 : Layout) (r : Bool) (h : r12Layout a0 = r) : PCalls Tryz.prog 70 [encLayout a0] (B r) := by
 unfold r12Layout at h
 refine xe 21 Tryz.func70 ?_
 refine xsr ?_
 refine xa ?_
 refine xp ?_
 refine xq ?_
 refine vc_seq ?_
 refine xk [] [(1, .d (.ptr [I a0.nodes, I a0.data]))] .nil ⟨.z (.own' rfl (.cons .d (.cons .d .nil))) .refl, trivial⟩ ?_
 refine vc_midQ [(2, .d (B ((decide (a0.nodes ≥ 1)) && ((decide (a0.nodes ≤ 60)) && ((decide (a0.data ≥ 1)) && (decide (a0.data ≤ 60)))))))] [] ?_ ?_
 ·refine xr ?_
  iterate 4 refine xp ?_
  cases c1 : decide (a0.nodes ≥ 1) with
  | true =>
   iterate 5 refine xp ?_
   cases c2 : decide (a0.nodes ≤ 60) with
   | true =>
    iterate 5 refine xp ?_
    cases c3 : decide (a0.data ≥ 1) with
    | true =>
     iterate 5 refine xp ?_
     refine xq ?_
     exact xm [] .nil (xh1 trivial)
    | false =>
     iterate 3 refine xs ?_
     iterate 2 refine xp ?_
     refine xq ?_
     exact xm [] .nil (xh1 trivial)
   | false =>
    iterate 3 refine xs ?_
    iterate 2 refine xp ?_
    iterate 3 refine xs ?_
    iterate 2 refine xp ?_
    refine xq ?_
    exact xm [] .nil (xh1 trivial)
  | false =>
   iterate 3 refine xs ?_
   iterate 2 refine xp ?_
   iterate 3 refine xs ?_
   iterate 2 refine xp ?_
   iterate 3 refine xs ?_
   iterate 2 refine xp ?_
   refine xq ?_
   exact xm [] .nil (xh1 trivial)
 ·refine vc_ret ⟨.inr rfl, [B ((decide (a0.nodes ≥ 1)) && ((decide (a0.nodes ≤ 60)) && ((decide (a0.data ≥ 1)) && (decide (a0.data ≤ 60)))))], (.cons rfl ⟨_, .d, .refl⟩ .nil), ?_⟩
  first | (rw [← h]; done) | (rw [← h]; rfl) | (rw [← h]; simp)
def lately (n : Near) (frame : Int) : Bool := decide ((IntKind.i64.wrap (n.frame + 1)) ≥ frame)
theorem lately_ok (n : Near) (frame : Int) (r : Bool) (h : lately n frame = r) : PCalls Tryz.prog 27 [encNear n, I frame] (B r) := by
 unfold lately at h
 refine xe 10 Tryz.func27 ?_
 refine xsr ?_
 refine xa ?_
 refine xp ?_
 refine xq ?_
 refine vc_seq ?_
 refine xk [] [(1, .d (I frame)), (2, .d (.ptr (encNear n).cells))] .nil (xh1 ⟨.z (.own' rfl (.cons .d (.cons .d (.cons .d (.cons .d (.cons .d (.cons .d (.cons .d (.cons .d (.cons .d (.cons .d (.cons .d (.cons .d (.cons .d (.cons .d (.cons .d (.cons .d (.cons .d (.cons .d (.cons .d (.cons .d (.cons .d (.cons .d (.cons .d (.cons .d (.cons .d (.cons .d (.cons .d (.cons .d (.cons .d (.cons .d (.cons .d .nil)))))))))))))))))))))))))))))))) .refl, trivial⟩) ?_
 refine xr ?_
 iterate 6 refine xp ?_
 refine xq ?_
 refine vc_ret ⟨.inr rfl, [B (decide ((IntKind.i64.wrap (n.frame + 1)) ≥ frame))], (.cons rfl ⟨_, .d, .refl⟩ .nil), ?_⟩
 first | (rw [← h]; done) | (rw [← h]; rfl) | (rw [← h]; simp)
def mine (a0 : Layout) (a1 : Grant) (me : Int) (frame : Int) : Bool := ((r12Grant a1 a0) && ((a1.peer == me) && (decide (a1.til ≥ frame))))
theorem mine_ok (a0 : Layout) (a1 : Grant) (me : Int) (frame : Int) (r : Bool) (h : mine a0 a1 me frame = r) : PCalls Tryz.prog 67 [encLayout a0, encGrant a1, I me, I frame] (B r) := by
 unfold mine at h
 refine xe 26 Tryz.func67 ?_
 refine xsr ?_
 refine xa ?_
 refine xa ?_
 refine xp ?_
 refine xq ?_
 refine vc_seq ?_
 refine xk [] [(2, .d (I me)), (3, .d (I frame)), (4, .d (.ptr [I a0.nodes, I a0.data])), (5, .d (.ptr (encGrant a1).cells))] .nil (xh2 ⟨.z (.own' rfl (.cons .d (.cons .d .nil))) .refl, ⟨.z (.own' rfl (.cons .d (.cons .d (.cons .d (.cons .d (.cons .d .nil)))))) .refl, trivial⟩⟩) ?_
 refine xr ?_
 iterate 2 refine xp ?_
 refine xc (r12Grant_ok a1 a0 _ rfl) ?_
 refine xp ?_
 refine xq ?_
 refine vc_seq ?_
 refine vc_midQ [(8, .d (B ((r12Grant a1 a0) && ((a1.peer == me) && (decide (a1.til ≥ frame))))))] [] ?_ ?_
 ·refine xr ?_
  iterate 2 refine xp ?_
  cases c1 : (r12Grant a1 a0) with
  | true =>
   iterate 6 refine xp ?_
   cases c2 : (a1.peer == me) with
   | true =>
    iterate 6 refine xp ?_
    refine xq ?_
    exact xm [] .nil (xh1 trivial)
   | false =>
    iterate 4 refine xs ?_
    iterate 2 refine xp ?_
    refine xq ?_
    exact xm [] .nil (xh1 trivial)
  | false =>
   iterate 4 refine xs ?_
   iterate 2 refine xp ?_
   iterate 4 refine xs ?_
   iterate 2 refine xp ?_
   refine xq ?_
   exact xm [] .nil (xh1 trivial)
 ·refine vc_ret ⟨.inr rfl, [B ((r12Grant a1 a0) && ((a1.peer == me) && (decide (a1.til ≥ frame))))], (.cons rfl ⟨_, .d, .refl⟩ .nil), ?_⟩
  first | (rw [← h]; done) | (rw [← h]; rfl) | (rw [← h]; simp)
def r13Uses_L1 (a0 : Layout) (a2 : Cell) (peer : Int) : List Use → Sum (Unit) (Bool)
 | [] => .inl ()
 | x2 :: l => cond ((r12Use x2 a0) && (((x2.cell.slot == a2.slot) && ((x2.cell.offset == a2.offset) && true)) && ((decide (peer < 0)) || (x2.peer == peer)))) (.inr true) (r13Uses_L1 a0 a2 peer l)
def r13Uses (a0 : Layout) (n : Near) (a2 : Cell) (peer : Int) : Bool := lt (r13Uses_L1 a0 a2 peer n.t.uses) fun v3 => Sum.elim (fun v4 => false) (fun v5 => v5) v3
theorem r13Uses_ok (a0 : Layout) (n : Near) (a2 : Cell) (peer : Int) (r : Bool) (h : r13Uses a0 n a2 peer = r) : PCalls Tryz.prog 25 [encLayout a0, encNear n, encCell a2, I peer] (B r) := by
 unfold r13Uses at h
 refine xe 46 Tryz.func25 ?_
 refine xsr ?_
 refine xa ?_
 refine xa ?_
 refine xa ?_
 refine xp ?_
 refine xq ?_
 refine vc_seq ?_
 refine vc_seq ?_
 refine xk [] [(3, .d (I peer)), (4, .d (.ptr [I a0.nodes, I a0.data])), (5, .d (.ptr (encNear n).cells)), (6, .d (.ptr [I a2.slot, I a2.offset]))] .nil (xh1 ⟨.z (.own' rfl (.cons .d (.cons .d .nil))) .refl, ⟨.z (.own' rfl (.cons .d (.cons .d (.cons .d (.cons .d (.cons .d (.cons .d (.cons .d (.cons .d (.cons .d (.cons .d (.cons .d (.cons .d (.cons .d (.cons .d (.cons .d (.cons .d (.cons .d (.cons .d (.cons .d (.cons .d (.cons .d (.cons .d (.cons .d (.cons .d (.cons .d (.cons .d (.cons .d (.cons .d (.cons .d (.cons .d (.cons .d .nil)))))))))))))))))))))))))))))))) .refl, ⟨.z (.own' rfl (.cons .d (.cons .d .nil))) .refl, trivial⟩⟩⟩) ?_
 refine xr ?_
 refine xp ?_
 refine xq ?_
 obtain ⟨v3, hv3, hLv3⟩ := bindT h
 refine vc_mid2 v3 (fun v4 => []) (fun v4 => []) ?_ ?_
 ·refine vc_block ?_
  refine vc_loop ?_
  refine xK [] [(3, .d (I peer)), (4, .d (.ptr [I a0.nodes, I a0.data])), (5, .d (.ptr (encNear n).cells)), (6, .d (.ptr [I a2.slot, I a2.offset])), (9, .d (I 0))] .nil (xh5 trivial) ?_
  refine vcl_lenS 5 rfl (.ptr 12 rfl .here) (fun hlen => ?_)
  replace hlen := len_map hlen
  refine vcl_rec n.t.uses (fun (pre l : List Use) (s : Unit) => r13Uses_L1 a0 a2 peer l) v3 (fun pre s => envOf [(3, .d (I peer)), (4, .d (.ptr [I a0.nodes, I a0.data])), (5, .d (.ptr (encNear n).cells)), (6, .d (.ptr [I a2.slot, I a2.offset])), (9, .d (I (pre.length : Int)))]) (fun pre s => []) ?step1 ?done1 () hv3
  case step1 =>
   rintro pre x2 l _ hpre hlt h ih
   have hprex2 := hpre
   replace h : r13Uses_L1 a0 a2 peer (x2 :: l) = v3 := h
   show VCL _ _ _ _ _ (envOf _) []
   obtain ⟨i1, hi⟩ : ∃ i : Int, i = (pre.length : Int) := ⟨_, rfl⟩
   have hix2 := hi
   rw [← hi]
   rw [r13Uses_L1] at h
   refine vcl_unroll ?_
   refine vc_seq ?_
   refine xsr ?_
   iterate 4 refine xp ?_
   refine xl ?_
   refine xp ?_
   refine xq ?_
   refine vc_cond rfl (fun _ => ?_) (fun hf => absurd hf (by simp; omega))
   refine vc_skip ?_
   refine vc_seq ?_
   refine vc_block ?_
   refine xsr ?_
   iterate 4 refine xp ?_
   refine ri rfl rfl rfl rfl rfl rfl rfl (by omega) (by rw [hix2]; exact idxp hprex2) ?_
   refine xp ?_
   refine xa ?_
   refine xw ?_
   refine xq ?_
   refine vc_seq ?_
   refine xk [] [(3, .d (I peer)), (4, .d (.ptr [I a0.nodes, I a0.data])), (5, .d (.ptr (encNear n).cells)), (6, .d (.ptr [I a2.slot, I a2.offset])), (9, .d (I i1)), (10, .d (.ptr (encUse x2).cells))] .nil (xh5 ⟨.z (.own' rfl (.cons .d (.cons .d (.cons .d (.cons .d .nil))))) .refl, trivial⟩) ?_
   refine xr ?_
   iterate 2 refine xp ?_
   refine xc (r12Use_ok x2 a0 _ rfl) ?_
   refine xp ?_
   refine xq ?_
   refine vc_seq ?_
   refine vc_midQ [(3, .d (I peer)), (4, .d (.ptr [I a0.nodes, I a0.data])), (5, .d (.ptr (encNear n).cells)), (6, .d (.ptr [I a2.slot, I a2.offset])), (9, .d (I i1)), (45, .d (B ((r12Use x2 a0) && (((x2.cell.slot == a2.slot) && ((x2.cell.offset == a2.offset) && true)) && ((decide (peer < 0)) || (x2.peer == peer))))))] [] ?_ ?_
   ·refine xr ?_
    iterate 2 refine xp ?_
    cases c6 : (r12Use x2 a0) with
    | true =>
     iterate 6 refine xp ?_
     cases c7 : ((x2.cell.slot == a2.slot) && ((x2.cell.offset == a2.offset) && true)) with
     | true =>
      iterate 3 refine xp ?_
      cases c8 : decide (peer < 0) with
      | true =>
       iterate 4 refine xs ?_
       iterate 2 refine xp ?_
       refine xq ?_
       exact xm [] .nil (xh5 (xh1 trivial))
      | false =>
       iterate 6 refine xp ?_
       refine xq ?_
       exact xm [] .nil (xh5 (xh1 trivial))
     | false =>
      iterate 8 refine xs ?_
      refine xp ?_
      refine xq ?_
      exact xm [] .nil (xh5 (xh1 trivial))
    | false =>
     iterate 4 refine xs ?_
     iterate 2 refine xp ?_
     iterate 8 refine xs ?_
     refine xp ?_
     refine xq ?_
     exact xm [] .nil (xh5 (xh1 trivial))
   ·cases c9 : ((r12Use x2 a0) && (((x2.cell.slot == a2.slot) && ((x2.cell.offset == a2.offset) && true)) && ((decide (peer < 0)) || (x2.peer == peer)))) with
    | true =>
     have h := cT c9 h
     refine vc_condT rfl ?_
     refine xsr ?_
     refine xp ?_
     refine xq ?_
     cases h
     have h := sumR hLv3
     refine vc_ret ⟨.inr rfl, [B true], (.cons rfl ⟨_, .d, .refl⟩ .nil), ?_⟩
     first | (rw [← h]; done) | (rw [← h]; rfl) | (rw [← h]; simp)
    | false =>
     have h := cF c9 h
     refine vc_condF rfl ?_
     refine vc_skip ?_
     refine xr ?_
     iterate 3 refine xp ?_
     refine xq ?_
     exact xv [] (ih () h) .nil (xh3 (xh1 ⟨.e rfl (cntI hi hlt hlen), trivial⟩))
  case done1 =>
   rintro _ h
   replace h : r13Uses_L1 a0 a2 peer [] = v3 := h
   rw [r13Uses_L1] at h
   show VCL _ _ _ _ _ (envOf _) []
   refine vcl_unroll ?_
   refine vc_seq ?_
   refine xsr ?_
   iterate 4 refine xp ?_
   refine xl ?_
   refine xp ?_
   refine xq ?_
   refine vc_cond rfl (fun ht => absurd ht (by simp; try omega)) (fun _ => ?_)
   refine vc_exit ?_
   cases h
   exact xm [] .nil trivial
 ·rintro v4 rfl
  have h := sumL hLv3
  refine xsr ?_
  refine xp ?_
  refine xq ?_
  refine vc_ret ⟨.inr rfl, [B false], (.cons rfl ⟨_, .d, .refl⟩ .nil), ?_⟩
  first | (rw [← h]; done) | (rw [← h]; rfl) | (rw [← h]; simp)
def r13Asks_L1 (a0 : Layout) (a2 : Cell) (peer : Int) : List Ask → Sum (Unit) (Bool)
 | [] => .inl ()
 | x2 :: l => cond ((r12Cell x2.cell x2.peer a0) && (((x2.cell.slot == a2.slot) && ((x2.cell.offset == a2.offset) && true)) && (x2.peer == peer))) (.inr true) (r13Asks_L1 a0 a2 peer l)
def r13Asks (a0 : Layout) (n : Near) (a2 : Cell) (peer : Int) : Bool := lt (r13Asks_L1 a0 a2 peer n.t.asks) fun v3 => Sum.elim (fun v4 => false) (fun v5 => v5) v3
theorem r13Asks_ok (a0 : Layout) (n : Near) (a2 : Cell) (peer : Int) (r : Bool) (h : r13Asks a0 n a2 peer = r) : PCalls Tryz.prog 26 [encLayout a0, encNear n, encCell a2, I peer] (B r) := by
 unfold r13Asks at h
 refine xe 45 Tryz.func26 ?_
 refine xsr ?_
 refine xa ?_
 refine xa ?_
 refine xa ?_
 refine xp ?_
 refine xq ?_
 refine vc_seq ?_
 refine vc_seq ?_
 refine xk [] [(3, .d (I peer)), (4, .d (.ptr [I a0.nodes, I a0.data])), (5, .d (.ptr (encNear n).cells)), (6, .d (.ptr [I a2.slot, I a2.offset]))] .nil (xh1 ⟨.z (.own' rfl (.cons .d (.cons .d .nil))) .refl, ⟨.z (.own' rfl (.cons .d (.cons .d (.cons .d (.cons .d (.cons .d (.cons .d (.cons .d (.cons .d (.cons .d (.cons .d (.cons .d (.cons .d (.cons .d (.cons .d (.cons .d (.cons .d (.cons .d (.cons .d (.cons .d (.cons .d (.cons .d (.cons .d (.cons .d (.cons .d (.cons .d (.cons .d (.cons .d (.cons .d (.cons .d (.cons .d (.cons .d .nil)))))))))))))))))))))))))))))))) .refl, ⟨.z (.own' rfl (.cons .d (.cons .d .nil))) .refl, trivial⟩⟩⟩) ?_
 refine xr ?_
 refine xp ?_
 refine xq ?_
 obtain ⟨v3, hv3, hLv3⟩ := bindT h
 refine vc_mid2 v3 (fun v4 => []) (fun v4 => []) ?_ ?_
 ·refine vc_block ?_
  refine vc_loop ?_
  refine xK [] [(3, .d (I peer)), (4, .d (.ptr [I a0.nodes, I a0.data])), (5, .d (.ptr (encNear n).cells)), (6, .d (.ptr [I a2.slot, I a2.offset])), (9, .d (I 0))] .nil (xh5 trivial) ?_
  refine vcl_lenS 5 rfl (.ptr 14 rfl .here) (fun hlen => ?_)
  replace hlen := len_map hlen
  refine vcl_rec n.t.asks (fun (pre l : List Ask) (s : Unit) => r13Asks_L1 a0 a2 peer l) v3 (fun pre s => envOf [(3, .d (I peer)), (4, .d (.ptr [I a0.nodes, I a0.data])), (5, .d (.ptr (encNear n).cells)), (6, .d (.ptr [I a2.slot, I a2.offset])), (9, .d (I (pre.length : Int)))]) (fun pre s => []) ?step1 ?done1 () hv3
  case step1 =>
   rintro pre x2 l _ hpre hlt h ih
   have hprex2 := hpre
   replace h : r13Asks_L1 a0 a2 peer (x2 :: l) = v3 := h
   show VCL _ _ _ _ _ (envOf _) []
   obtain ⟨i1, hi⟩ : ∃ i : Int, i = (pre.length : Int) := ⟨_, rfl⟩
   have hix2 := hi
   rw [← hi]
   rw [r13Asks_L1] at h
   refine vcl_unroll ?_
   refine vc_seq ?_
   refine xsr ?_
   iterate 4 refine xp ?_
   refine xl ?_
   refine xp ?_
   refine xq ?_
   refine vc_cond rfl (fun _ => ?_) (fun hf => absurd hf (by simp; omega))
   refine vc_skip ?_
   refine vc_seq ?_
   refine vc_block ?_
   refine xsr ?_
   iterate 4 refine xp ?_
   refine ri rfl rfl rfl rfl rfl rfl rfl (by omega) (by rw [hix2]; exact idxp hprex2) ?_
   refine xp ?_
   refine xa ?_
   refine xw ?_
   refine xq ?_
   refine vc_seq ?_
   refine xk [] [(3, .d (I peer)), (4, .d (.ptr [I a0.nodes, I a0.data])), (5, .d (.ptr (encNear n).cells)), (6, .d (.ptr [I a2.slot, I a2.offset])), (9, .d (I i1)), (10, .d (.ptr [I x2.cell.slot, I x2.cell.offset, I x2.peer]))] .nil (xh5 ⟨.z (.own' rfl (.cons .d (.cons .d (.cons .d .nil)))) .refl, trivial⟩) ?_
   refine xr ?_
   iterate 5 refine xp ?_
   refine xc (r12Cell_ok x2.cell x2.peer a0 _ rfl) ?_
   refine xp ?_
   refine xq ?_
   refine vc_seq ?_
   refine vc_midQ [(3, .d (I peer)), (4, .d (.ptr [I a0.nodes, I a0.data])), (5, .d (.ptr (encNear n).cells)), (6, .d (.ptr [I a2.slot, I a2.offset])), (9, .d (I i1)), (44, .d (B ((r12Cell x2.cell x2.peer a0) && (((x2.cell.slot == a2.slot) && ((x2.cell.offset == a2.offset) && true)) && (x2.peer == peer)))))] [] ?_ ?_
   ·refine xr ?_
    iterate 2 refine xp ?_
    cases c6 : (r12Cell x2.cell x2.peer a0) with
    | true =>
     iterate 6 refine xp ?_
     cases c7 : ((x2.cell.slot == a2.slot) && ((x2.cell.offset == a2.offset) && true)) with
     | true =>
      iterate 5 refine xp ?_
      refine xq ?_
      exact xm [] .nil (xh5 (xh1 trivial))
     | false =>
      iterate 4 refine xs ?_
      refine xp ?_
      refine xq ?_
      exact xm [] .nil (xh5 (xh1 trivial))
    | false =>
     iterate 4 refine xs ?_
     iterate 2 refine xp ?_
     iterate 4 refine xs ?_
     refine xp ?_
     refine xq ?_
     exact xm [] .nil (xh5 (xh1 trivial))
   ·cases c8 : ((r12Cell x2.cell x2.peer a0) && (((x2.cell.slot == a2.slot) && ((x2.cell.offset == a2.offset) && true)) && (x2.peer == peer))) with
    | true =>
     have h := cT c8 h
     refine vc_condT rfl ?_
     refine xsr ?_
     refine xp ?_
     refine xq ?_
     cases h
     have h := sumR hLv3
     refine vc_ret ⟨.inr rfl, [B true], (.cons rfl ⟨_, .d, .refl⟩ .nil), ?_⟩
     first | (rw [← h]; done) | (rw [← h]; rfl) | (rw [← h]; simp)
    | false =>
     have h := cF c8 h
     refine vc_condF rfl ?_
     refine vc_skip ?_
     refine xr ?_
     iterate 3 refine xp ?_
     refine xq ?_
     exact xv [] (ih () h) .nil (xh3 (xh1 ⟨.e rfl (cntI hi hlt hlen), trivial⟩))
  case done1 =>
   rintro _ h
   replace h : r13Asks_L1 a0 a2 peer [] = v3 := h
   rw [r13Asks_L1] at h
   show VCL _ _ _ _ _ (envOf _) []
   refine vcl_unroll ?_
   refine vc_seq ?_
   refine xsr ?_
   iterate 4 refine xp ?_
   refine xl ?_
   refine xp ?_
   refine xq ?_
   refine vc_cond rfl (fun ht => absurd ht (by simp; try omega)) (fun _ => ?_)
   refine vc_exit ?_
   cases h
   exact xm [] .nil trivial
 ·rintro v4 rfl
  have h := sumL hLv3
  refine xsr ?_
  refine xp ?_
  refine xq ?_
  refine vc_ret ⟨.inr rfl, [B false], (.cons rfl ⟨_, .d, .refl⟩ .nil), ?_⟩
  first | (rw [← h]; done) | (rw [← h]; rfl) | (rw [← h]; simp)
def r13InSlot_L1 (a0 : Layout) (slot : Int) : List Use → Sum (Unit) (Bool)
 | [] => .inl ()
 | x2 :: l => cond ((r12Use x2 a0) && (x2.cell.slot == slot)) (.inr true) (r13InSlot_L1 a0 slot l)
def r13InSlot_L2 (a0 : Layout) (slot : Int) : List Grant → Sum (Unit) (Bool)
 | [] => .inl ()
 | x9 :: l => cond ((r12Grant x9 a0) && (x9.cell.slot == slot)) (.inr true) (r13InSlot_L2 a0 slot l)
def r13InSlot (a0 : Layout) (n : Near) (slot : Int) : Bool := lt (r13InSlot_L1 a0 slot n.t.uses) fun v3 => Sum.elim (fun v4 => lt (r13InSlot_L2 a0 slot n.t.grants) fun v10 => Sum.elim (fun v11 => false) (fun v12 => v12) v10) (fun v5 => v5) v3
theorem r13InSlot_ok (a0 : Layout) (n : Near) (slot : Int) (r : Bool) (h : r13InSlot a0 n slot = r) : PCalls Tryz.prog 23 [encLayout a0, encNear n, I slot] (B r) := by
 unfold r13InSlot at h
 refine xe 69 Tryz.func23 ?_
 refine xsr ?_
 refine xa ?_
 refine xa ?_
 refine xp ?_
 refine xq ?_
 refine vc_seq ?_
 refine vc_seq ?_
 refine xk [] [(2, .d (I slot)), (3, .d (.ptr [I a0.nodes, I a0.data])), (4, .d (.ptr (encNear n).cells))] .nil (xh1 ⟨.z (.own' rfl (.cons .d (.cons .d .nil))) .refl, ⟨.z (.own' rfl (.cons .d (.cons .d (.cons .d (.cons .d (.cons .d (.cons .d (.cons .d (.cons .d (.cons .d (.cons .d (.cons .d (.cons .d (.cons .d (.cons .d (.cons .d (.cons .d (.cons .d (.cons .d (.cons .d (.cons .d (.cons .d (.cons .d (.cons .d (.cons .d (.cons .d (.cons .d (.cons .d (.cons .d (.cons .d (.cons .d (.cons .d .nil)))))))))))))))))))))))))))))))) .refl, trivial⟩⟩) ?_
 refine xr ?_
 refine xp ?_
 refine xq ?_
 obtain ⟨v3, hv3, hLv3⟩ := bindT h
 refine vc_mid2 v3 (fun v4 => [(2, .d (I slot)), (3, .d (.ptr [I a0.nodes, I a0.data])), (4, .d (.ptr (encNear n).cells))]) (fun v4 => []) ?_ ?_
 ·refine vc_block ?_
  refine vc_loop ?_
  refine xK [] [(2, .d (I slot)), (3, .d (.ptr [I a0.nodes, I a0.data])), (4, .d (.ptr (encNear n).cells)), (7, .d (I 0))] .nil (xh3 (xh1 trivial)) ?_
  refine vcl_lenS 4 rfl (.ptr 12 rfl .here) (fun hlen => ?_)
  replace hlen := len_map hlen
  refine vcl_rec n.t.uses (fun (pre l : List Use) (s : Unit) => r13InSlot_L1 a0 slot l) v3 (fun pre s => envOf [(2, .d (I slot)), (3, .d (.ptr [I a0.nodes, I a0.data])), (4, .d (.ptr (encNear n).cells)), (7, .d (I (pre.length : Int)))]) (fun pre s => []) ?step1 ?done1 () hv3
  case step1 =>
   rintro pre x2 l _ hpre hlt h ih
   have hprex2 := hpre
   replace h : r13InSlot_L1 a0 slot (x2 :: l) = v3 := h
   show VCL _ _ _ _ _ (envOf _) []
   obtain ⟨i1, hi⟩ : ∃ i : Int, i = (pre.length : Int) := ⟨_, rfl⟩
   have hix2 := hi
   rw [← hi]
   rw [r13InSlot_L1] at h
   refine vcl_unroll ?_
   refine vc_seq ?_
   refine xsr ?_
   iterate 4 refine xp ?_
   refine xl ?_
   refine xp ?_
   refine xq ?_
   refine vc_cond rfl (fun _ => ?_) (fun hf => absurd hf (by simp; omega))
   refine vc_skip ?_
   refine vc_seq ?_
   refine vc_block ?_
   refine xsd ?_
   iterate 4 refine xp ?_
   refine ri rfl rfl rfl rfl rfl rfl rfl (by omega) (by rw [hix2]; exact idxp hprex2) ?_
   iterate 2 refine xp ?_
   refine xc (r12Use_ok x2 a0 _ rfl) ?_
   refine xp ?_
   refine xq ?_
   refine vc_seq ?_
   refine vc_midQ [(2, .d (I slot)), (3, .d (.ptr [I a0.nodes, I a0.data])), (4, .d (.ptr (encNear n).cells)), (7, .d (I i1)), (39, .d (B ((r12Use x2 a0) && (x2.cell.slot == slot))))] [] ?_ ?_
   ·refine xr ?_
    iterate 2 refine xp ?_
    cases c6 : (r12Use x2 a0) with
    | true =>
     iterate 4 refine xp ?_
     refine ri rfl rfl rfl rfl rfl rfl rfl (by omega) (by rw [hix2]; exact idxp hprex2) ?_
     iterate 6 refine xp ?_
     refine xq ?_
     exact xm [] .nil (xh5 trivial)
    | false =>
     iterate 10 refine xs ?_
     refine xp ?_
     refine xq ?_
     exact xm [] .nil (xh5 trivial)
   ·cases c7 : ((r12Use x2 a0) && (x2.cell.slot == slot)) with
    | true =>
     have h := cT c7 h
     refine vc_condT rfl ?_
     refine xsr ?_
     refine xp ?_
     refine xq ?_
     cases h
     have h := sumR hLv3
     refine vc_ret ⟨.inr rfl, [B true], (.cons rfl ⟨_, .d, .refl⟩ .nil), ?_⟩
     first | (rw [← h]; done) | (rw [← h]; rfl) | (rw [← h]; simp)
    | false =>
     have h := cF c7 h
     refine vc_condF rfl ?_
     refine vc_skip ?_
     refine xr ?_
     iterate 3 refine xp ?_
     refine xq ?_
     exact xv [] (ih () h) .nil (xh3 ⟨.e rfl (cntI hi hlt hlen), trivial⟩)
  case done1 =>
   rintro _ h
   replace h : r13InSlot_L1 a0 slot [] = v3 := h
   rw [r13InSlot_L1] at h
   show VCL _ _ _ _ _ (envOf _) []
   refine vcl_unroll ?_
   refine vc_seq ?_
   refine xsr ?_
   iterate 4 refine xp ?_
   refine xl ?_
   refine xp ?_
   refine xq ?_
   refine vc_cond rfl (fun ht => absurd ht (by simp; try omega)) (fun _ => ?_)
   refine vc_exit ?_
   cases h
   exact xm [] .nil (xh3 trivial)
 ·rintro v4 rfl
  have h := sumL hLv3
  refine vc_seq ?_
  refine xsr ?_
  refine xp ?_
  refine xq ?_
  obtain ⟨v10, hv10, hLv10⟩ := bindT h
  refine vc_mid2 v10 (fun v11 => []) (fun v11 => []) ?_ ?_
  ·refine vc_block ?_
   refine vc_loop ?_
   refine xK [] [(2, .d (I slot)), (3, .d (.ptr [I a0.nodes, I a0.data])), (4, .d (.ptr (encNear n).cells)), (9, .d (I 0))] .nil (xh3 (xh1 trivial)) ?_
   refine vcl_lenS 4 rfl (.ptr 13 rfl .here) (fun hlen => ?_)
   replace hlen := len_map hlen
   refine vcl_rec n.t.grants (fun (pre l : List Grant) (s : Unit) => r13InSlot_L2 a0 slot l) v10 (fun pre s => envOf [(2, .d (I slot)), (3, .d (.ptr [I a0.nodes, I a0.data])), (4, .d (.ptr (encNear n).cells)), (9, .d (I (pre.length : Int)))]) (fun pre s => []) ?step2 ?done2 () hv10
   case step2 =>
    rintro pre x9 l _ hpre hlt h ih
    have hprex9 := hpre
    replace h : r13InSlot_L2 a0 slot (x9 :: l) = v10 := h
    show VCL _ _ _ _ _ (envOf _) []
    obtain ⟨i8, hi⟩ : ∃ i : Int, i = (pre.length : Int) := ⟨_, rfl⟩
    have hix9 := hi
    rw [← hi]
    rw [r13InSlot_L2] at h
    refine vcl_unroll ?_
    refine vc_seq ?_
    refine xsr ?_
    iterate 4 refine xp ?_
    refine xl ?_
    refine xp ?_
    refine xq ?_
    refine vc_cond rfl (fun _ => ?_) (fun hf => absurd hf (by simp; omega))
    refine vc_skip ?_
    refine vc_seq ?_
    refine vc_block ?_
    refine xsd ?_
    iterate 4 refine xp ?_
    refine ri rfl rfl rfl rfl rfl rfl rfl (by omega) (by rw [hix9]; exact idxp hprex9) ?_
    iterate 2 refine xp ?_
    refine xc (r12Grant_ok x9 a0 _ rfl) ?_
    refine xp ?_
    refine xq ?_
    refine vc_seq ?_
    refine vc_midQ [(2, .d (I slot)), (3, .d (.ptr [I a0.nodes, I a0.data])), (4, .d (.ptr (encNear n).cells)), (9, .d (I i8)), (68, .d (B ((r12Grant x9 a0) && (x9.cell.slot == slot))))] [] ?_ ?_
    ·refine xr ?_
     iterate 2 refine xp ?_
     cases c13 : (r12Grant x9 a0) with
     | true =>
      iterate 4 refine xp ?_
      refine ri rfl rfl rfl rfl rfl rfl rfl (by omega) (by rw [hix9]; exact idxp hprex9) ?_
      iterate 6 refine xp ?_
      refine xq ?_
      exact xm [] .nil (xh5 trivial)
     | false =>
      iterate 10 refine xs ?_
      refine xp ?_
      refine xq ?_
      exact xm [] .nil (xh5 trivial)
    ·cases c14 : ((r12Grant x9 a0) && (x9.cell.slot == slot)) with
     | true =>
      have h := cT c14 h
      refine vc_condT rfl ?_
      refine xsr ?_
      refine xp ?_
      refine xq ?_
      cases h
      have h := sumR hLv10
      refine vc_ret ⟨.inr rfl, [B true], (.cons rfl ⟨_, .d, .refl⟩ .nil), ?_⟩
      first | (rw [← h]; done) | (rw [← h]; rfl) | (rw [← h]; simp)
     | false =>
      have h := cF c14 h
      refine vc_condF rfl ?_
      refine vc_skip ?_
      refine xr ?_
      iterate 3 refine xp ?_
      refine xq ?_
      exact xv [] (ih () h) .nil (xh3 ⟨.e rfl (cntI hi hlt hlen), trivial⟩)
   case done2 =>
    rintro _ h
    replace h : r13InSlot_L2 a0 slot [] = v10 := h
    rw [r13InSlot_L2] at h
    show VCL _ _ _ _ _ (envOf _) []
    refine vcl_unroll ?_
    refine vc_seq ?_
    refine xsr ?_
    iterate 4 refine xp ?_
    refine xl ?_
    refine xp ?_
    refine xq ?_
    refine vc_cond rfl (fun ht => absurd ht (by simp; try omega)) (fun _ => ?_)
    refine vc_exit ?_
    cases h
    exact xm [] .nil trivial
  ·rintro v11 rfl
   have h := sumL hLv10
   refine xsr ?_
   refine xp ?_
   refine xq ?_
   refine vc_ret ⟨.inr rfl, [B false], (.cons rfl ⟨_, .d, .refl⟩ .nil), ?_⟩
   first | (rw [← h]; done) | (rw [← h]; rfl) | (rw [← h]; simp)
def r13Foreign_L2 (a0 : Layout) (a2 : Cell) (me : Int) : List Grant → Sum (Unit) (Bool)
 | [] => .inl ()
 | x7 :: l => cond ((r12Grant x7 a0) && (((x7.cell.slot == a2.slot) && ((x7.cell.offset == a2.offset) && true)) && (x7.peer != me))) (.inr true) (r13Foreign_L2 a0 a2 me l)
def r13Foreign_L1 (a0 : Layout) (a2 : Cell) (me : Int) : List Near → Sum (Unit) (Bool)
 | [] => .inl ()
 | x2 :: l => lt (r13Foreign_L2 a0 a2 me x2.t.grants) fun v8 => Sum.elim (fun v9 => r13Foreign_L1 a0 a2 me l) (fun v10 => .inr v10) v8
def r13Foreign (a0 : Layout) (near : (List Near)) (a2 : Cell) (me : Int) : Bool := lt (r13Foreign_L1 a0 a2 me near) fun v3 => Sum.elim (fun v4 => false) (fun v5 => v5) v3
theorem r13Foreign_ok (a0 : Layout) (near : (List Near)) (a2 : Cell) (me : Int) (r : Bool) (h : r13Foreign a0 near a2 me = r) : PCalls Tryz.prog 21 [encLayout a0, .list 31 (near.map encNear), encCell a2, I me] (B r) := by
 unfold r13Foreign at h
 refine xe 55 Tryz.func21 ?_
 refine xsr ?_
 refine xa ?_
 refine xa ?_
 refine xp ?_
 refine xq ?_
 refine vc_seq ?_
 refine vc_seq ?_
 refine xk [] [(1, .d (.list 31 (near.map encNear))), (3, .d (I me)), (4, .d (.ptr [I a0.nodes, I a0.data])), (6, .d (.ptr [I a2.slot, I a2.offset]))] .nil (xh2 ⟨.z (.own' rfl (.cons .d (.cons .d .nil))) .refl, ⟨.z (.own' rfl (.cons .d (.cons .d .nil))) .refl, trivial⟩⟩) ?_
 refine xr ?_
 refine xp ?_
 refine xq ?_
 obtain ⟨v3, hv3, hLv3⟩ := bindT h
 refine vc_mid2 v3 (fun v4 => []) (fun v4 => []) ?_ ?_
 ·refine vc_block ?_
  refine vc_loop ?_
  refine xK [] [(1, .d (.list 31 (near.map encNear))), (3, .d (I me)), (4, .d (.ptr [I a0.nodes, I a0.data])), (6, .d (.ptr [I a2.slot, I a2.offset])), (9, .d (I 0))] .nil (xh5 trivial) ?_
  refine vcl_len 1 rfl (fun hlen => ?_)
  replace hlen := len_map hlen
  refine vcl_rec near (fun (pre l : List Near) (s : Unit) => r13Foreign_L1 a0 a2 me l) v3 (fun pre s => envOf [(1, .d (.list 31 (near.map encNear))), (3, .d (I me)), (4, .d (.ptr [I a0.nodes, I a0.data])), (6, .d (.ptr [I a2.slot, I a2.offset])), (9, .d (I (pre.length : Int)))]) (fun pre s => []) ?step1 ?done1 () hv3
  case step1 =>
   rintro pre x2 l _ hpre hlt h ih
   have hprex2 := hpre
   replace h : r13Foreign_L1 a0 a2 me (x2 :: l) = v3 := h
   show VCL _ _ _ _ _ (envOf _) []
   obtain ⟨i1, hi⟩ : ∃ i : Int, i = (pre.length : Int) := ⟨_, rfl⟩
   have hix2 := hi
   rw [← hi]
   rw [r13Foreign_L1] at h
   refine vcl_unroll ?_
   refine vc_seq ?_
   refine xsr ?_
   iterate 2 refine xp ?_
   refine xl ?_
   refine xp ?_
   refine xq ?_
   refine vc_cond rfl (fun _ => ?_) (fun hf => absurd hf (by simp; omega))
   refine vc_skip ?_
   refine vc_seq ?_
   refine vc_block ?_
   refine xsr ?_
   refine xp ?_
   refine xq ?_
   obtain ⟨v8, hv8, hLv8⟩ := bindT h
   refine vc_mid2 v8 (fun v9 => [(1, .d (.list 31 (near.map encNear))), (3, .d (I me)), (4, .d (.ptr [I a0.nodes, I a0.data])), (6, .d (.ptr [I a2.slot, I a2.offset])), (9, .d (I i1))]) (fun v9 => []) ?_ ?_
   ·refine vc_block ?_
    refine vc_loop ?_
    refine xK [] [(1, .d (.list 31 (near.map encNear))), (3, .d (I me)), (4, .d (.ptr [I a0.nodes, I a0.data])), (6, .d (.ptr [I a2.slot, I a2.offset])), (9, .d (I i1)), (10, .d (I 0))] .nil (xh5 (xh1 trivial)) ?_
    refine vcl_lenS 1 rfl (.elem (idxp hprex2) 13 rfl .here) (fun hlen => ?_)
    replace hlen := len_map hlen
    refine vcl_rec x2.t.grants (fun (pre l : List Grant) (s : Unit) => r13Foreign_L2 a0 a2 me l) v8 (fun pre s => envOf [(1, .d (.list 31 (near.map encNear))), (3, .d (I me)), (4, .d (.ptr [I a0.nodes, I a0.data])), (6, .d (.ptr [I a2.slot, I a2.offset])), (9, .d (I i1)), (10, .d (I (pre.length : Int)))]) (fun pre s => []) ?step2 ?done2 () hv8
    case step2 =>
     rintro pre x7 l _ hpre hlt h ih
     have hprex7 := hpre
     replace h : r13Foreign_L2 a0 a2 me (x7 :: l) = v8 := h
     show VCL _ _ _ _ _ (envOf _) []
     obtain ⟨i6, hi⟩ : ∃ i : Int, i = (pre.length : Int) := ⟨_, rfl⟩
     have hix7 := hi
     rw [← hi]
     rw [r13Foreign_L2] at h
     refine vcl_unroll ?_
     refine vc_seq ?_
     refine xsr ?_
     iterate 3 refine xp ?_
     refine ri rfl rfl rfl rfl rfl rfl rfl (by omega) (by rw [hix2]; exact idxp hprex2) ?_
     iterate 3 refine xp ?_
     refine xl ?_
     refine xp ?_
     refine xq ?_
     refine vc_cond rfl (fun _ => ?_) (fun hf => absurd hf (by simp; omega))
     refine vc_skip ?_
     refine vc_seq ?_
     refine vc_block ?_
     refine xsr ?_
     iterate 2 refine xp ?_
     refine ri rfl rfl rfl rfl rfl rfl rfl (by omega) (by rw [hix2]; exact idxp hprex2) ?_
     iterate 4 refine xp ?_
     refine ri rfl rfl rfl rfl rfl rfl rfl (by omega) (by rw [hix7]; exact idxp hprex7) ?_
     refine xp ?_
     refine xa ?_
     refine xw ?_
     refine xq ?_
     refine vc_seq ?_
     refine xk [] [(1, .d (.list 31 (near.map encNear))), (3, .d (I me)), (4, .d (.ptr [I a0.nodes, I a0.data])), (6, .d (.ptr [I a2.slot, I a2.offset])), (9, .d (I i1)), (10, .d (I i6)), (11, .d (.ptr (encGrant x7).cells))] .nil (xh5 (xh1 ⟨.z (.own' rfl (.cons .d (.cons .d (.cons .d (.cons .d (.cons .d .nil)))))) .refl, trivial⟩)) ?_
     refine xr ?_
     iterate 2 refine xp ?_
     refine xc (r12Grant_ok x7 a0 _ rfl) ?_
     refine xp ?_
     refine xq ?_
     refine vc_seq ?_
     refine vc_midQ [(1, .d (.list 31 (near.map encNear))), (3, .d (I me)), (4, .d (.ptr [I a0.nodes, I a0.data])), (6, .d (.ptr [I a2.slot, I a2.offset])), (9, .d (I i1)), (10, .d (I i6)), (54, .d (B ((r12Grant x7 a0) && (((x7.cell.slot == a2.slot) && ((x7.cell.offset == a2.offset) && true)) && (x7.peer != me)))))] [] ?_ ?_
     ·refine xr ?_
      iterate 2 refine xp ?_
      cases c11 : (r12Grant x7 a0) with
      | true =>
       iterate 6 refine xp ?_
       cases c12 : ((x7.cell.slot == a2.slot) && ((x7.cell.offset == a2.offset) && true)) with
       | true =>
        iterate 5 refine xp ?_
        refine xq ?_
        exact xm [] .nil (xh5 (xh2 trivial))
       | false =>
        iterate 4 refine xs ?_
        refine xp ?_
        refine xq ?_
        exact xm [] .nil (xh5 (xh2 trivial))
      | false =>
       iterate 4 refine xs ?_
       iterate 2 refine xp ?_
       iterate 4 refine xs ?_
       refine xp ?_
       refine xq ?_
       exact xm [] .nil (xh5 (xh2 trivial))
     ·cases c13 : ((r12Grant x7 a0) && (((x7.cell.slot == a2.slot) && ((x7.cell.offset == a2.offset) && true)) && (x7.peer != me))) with
      | true =>
       have h := cT c13 h
       refine vc_condT rfl ?_
       refine xsr ?_
       refine xp ?_
       refine xq ?_
       cases h
       have h := sumR hLv8
       cases h
       have h := sumR hLv3
       refine vc_ret ⟨.inr rfl, [B true], (.cons rfl ⟨_, .d, .refl⟩ .nil), ?_⟩
       first | (rw [← h]; done) | (rw [← h]; rfl) | (rw [← h]; simp)
      | false =>
       have h := cF c13 h
       refine vc_condF rfl ?_
       refine vc_skip ?_
       refine xr ?_
       iterate 3 refine xp ?_
       refine xq ?_
       exact xv [] (ih () h) .nil (xh5 ⟨.e rfl (cntI hi hlt hlen), trivial⟩)
    case done2 =>
     rintro _ h
     replace h : r13Foreign_L2 a0 a2 me [] = v8 := h
     rw [r13Foreign_L2] at h
     show VCL _ _ _ _ _ (envOf _) []
     refine vcl_unroll ?_
     refine vc_seq ?_
     refine xsr ?_
     iterate 3 refine xp ?_
     refine ri rfl rfl rfl rfl rfl rfl rfl (by omega) (by rw [hix2]; exact idxp hprex2) ?_
     iterate 3 refine xp ?_
     refine xl ?_
     refine xp ?_
     refine xq ?_
     refine vc_cond rfl (fun ht => absurd ht (by simp; try omega)) (fun _ => ?_)
     refine vc_exit ?_
     cases h
     exact xm [] .nil (xh5 trivial)
   ·rintro v9 rfl
    have h := sumL hLv8
    refine xr ?_
    iterate 3 refine xp ?_
    refine xq ?_
    exact xv [] (ih () h) .nil (xh3 (xh1 ⟨.e rfl (cntI hi hlt hlen), trivial⟩))
  case done1 =>
   rintro _ h
   replace h : r13Foreign_L1 a0 a2 me [] = v3 := h
   rw [r13Foreign_L1] at h
   show VCL _ _ _ _ _ (envOf _) []
   refine vcl_unroll ?_
   refine vc_seq ?_
   refine xsr ?_
   iterate 2 refine xp ?_
   refine xl ?_
   refine xp ?_
   refine xq ?_
   refine vc_cond rfl (fun ht => absurd ht (by simp; try omega)) (fun _ => ?_)
   refine vc_exit ?_
   cases h
   exact xm [] .nil trivial
 ·rintro v4 rfl
  have h := sumL hLv3
  refine xsr ?_
  refine xp ?_
  refine xq ?_
  refine vc_ret ⟨.inr rfl, [B false], (.cons rfl ⟨_, .d, .refl⟩ .nil), ?_⟩
  first | (rw [← h]; done) | (rw [← h]; rfl) | (rw [← h]; simp)
def r12Busy_L1 (slot : Int) : List Use → Sum (Unit) (Bool)
 | [] => .inl ()
 | x2 :: l => cond (x2.cell.slot == slot) (.inr true) (r12Busy_L1 slot l)
def r12Busy_L2 (slot : Int) : List Grant → Sum (Unit) (Bool)
 | [] => .inl ()
 | x8 :: l => cond (x8.cell.slot == slot) (.inr true) (r12Busy_L2 slot l)
def r12Busy (t : Table) (slot : Int) : Bool := lt (r12Busy_L1 slot t.uses) fun v3 => Sum.elim (fun v4 => lt (r12Busy_L2 slot t.grants) fun v9 => Sum.elim (fun v10 => false) (fun v11 => v11) v9) (fun v5 => v5) v3
theorem r12Busy_ok (t : Table) (slot : Int) (r : Bool) (h : r12Busy t slot = r) : PCalls Tryz.prog 22 [encTable t, I slot] (B r) := by
 unfold r12Busy at h
 refine xe 39 Tryz.func22 ?_
 refine xsr ?_
 refine xa ?_
 refine xp ?_
 refine xq ?_
 refine vc_seq ?_
 refine vc_seq ?_
 refine xk [] [(1, .d (I slot)), (2, .d (.ptr [.list 4 (t.uses.map encUse), .list 5 (t.grants.map encGrant), .list 3 (t.asks.map encAsk)]))] .nil (xh1 ⟨.z (.own' rfl (.cons .d (.cons .d (.cons .d .nil)))) .refl, trivial⟩) ?_
 refine xr ?_
 refine xp ?_
 refine xq ?_
 obtain ⟨v3, hv3, hLv3⟩ := bindT h
 refine vc_mid2 v3 (fun v4 => [(1, .d (I slot)), (2, .d (.ptr [.list 4 (t.uses.map encUse), .list 5 (t.grants.map encGrant), .list 3 (t.asks.map encAsk)]))]) (fun v4 => []) ?_ ?_
 ·refine vc_block ?_
  refine vc_loop ?_
  refine xK [] [(1, .d (I slot)), (2, .d (.ptr [.list 4 (t.uses.map encUse), .list 5 (t.grants.map encGrant), .list 3 (t.asks.map encAsk)])), (5, .d (I 0))] .nil (xh3 trivial) ?_
  refine vcl_lenS 2 rfl (.ptr 0 rfl .here) (fun hlen => ?_)
  replace hlen := len_map hlen
  refine vcl_rec t.uses (fun (pre l : List Use) (s : Unit) => r12Busy_L1 slot l) v3 (fun pre s => envOf [(1, .d (I slot)), (2, .d (.ptr [.list 4 (t.uses.map encUse), .list 5 (t.grants.map encGrant), .list 3 (t.asks.map encAsk)])), (5, .d (I (pre.length : Int)))]) (fun pre s => []) ?step1 ?done1 () hv3
  case step1 =>
   rintro pre x2 l _ hpre hlt h ih
   have hprex2 := hpre
   replace h : r12Busy_L1 slot (x2 :: l) = v3 := h
   show VCL _ _ _ _ _ (envOf _) []
   obtain ⟨i1, hi⟩ : ∃ i : Int, i = (pre.length : Int) := ⟨_, rfl⟩
   have hix2 := hi
   rw [← hi]
   rw [r12Busy_L1] at h
   refine vcl_unroll ?_
   refine vc_seq ?_
   refine xsr ?_
   iterate 3 refine xp ?_
   refine xl ?_
   refine xp ?_
   refine xq ?_
   refine vc_cond rfl (fun _ => ?_) (fun hf => absurd hf (by simp; omega))
   refine vc_skip ?_
   refine vc_seq ?_
   refine vc_block ?_
   refine xsr ?_
   iterate 3 refine xp ?_
   refine ri rfl rfl rfl rfl rfl rfl rfl (by omega) (by rw [hix2]; exact idxp hprex2) ?_
   iterate 5 refine xp ?_
   refine xq ?_
   cases c6 : (x2.cell.slot == slot) with
   | true =>
    have h := cT c6 h
    refine vc_condT rfl ?_
    refine xsr ?_
    refine xp ?_
    refine xq ?_
    cases h
    have h := sumR hLv3
    refine vc_ret ⟨.inr rfl, [B true], (.cons rfl ⟨_, .d, .refl⟩ .nil), ?_⟩
    first | (rw [← h]; done) | (rw [← h]; rfl) | (rw [← h]; simp)
   | false =>
    have h := cF c6 h
    refine vc_condF rfl ?_
    refine vc_skip ?_
    refine xr ?_
    iterate 3 refine xp ?_
    refine xq ?_
    exact xv [] (ih () h) .nil (xh2 ⟨.e rfl (cntI hi hlt hlen), trivial⟩)
  case done1 =>
   rintro _ h
   replace h : r12Busy_L1 slot [] = v3 := h
   rw [r12Busy_L1] at h
   show VCL _ _ _ _ _ (envOf _) []
   refine vcl_unroll ?_
   refine vc_seq ?_
   refine xsr ?_
   iterate 3 refine xp ?_
   refine xl ?_
   refine xp ?_
   refine xq ?_
   refine vc_cond rfl (fun ht => absurd ht (by simp; try omega)) (fun _ => ?_)
   refine vc_exit ?_
   cases h
   exact xm [] .nil (xh2 trivial)
 ·rintro v4 rfl
  have h := sumL hLv3
  refine vc_seq ?_
  refine xsr ?_
  refine xp ?_
  refine xq ?_
  obtain ⟨v9, hv9, hLv9⟩ := bindT h
  refine vc_mid2 v9 (fun v10 => []) (fun v10 => []) ?_ ?_
  ·refine vc_block ?_
   refine vc_loop ?_
   refine xK [] [(1, .d (I slot)), (2, .d (.ptr [.list 4 (t.uses.map encUse), .list 5 (t.grants.map encGrant), .list 3 (t.asks.map encAsk)])), (6, .d (I 0))] .nil (xh3 trivial) ?_
   refine vcl_lenS 2 rfl (.ptr 1 rfl .here) (fun hlen => ?_)
   replace hlen := len_map hlen
   refine vcl_rec t.grants (fun (pre l : List Grant) (s : Unit) => r12Busy_L2 slot l) v9 (fun pre s => envOf [(1, .d (I slot)), (2, .d (.ptr [.list 4 (t.uses.map encUse), .list 5 (t.grants.map encGrant), .list 3 (t.asks.map encAsk)])), (6, .d (I (pre.length : Int)))]) (fun pre s => []) ?step2 ?done2 () hv9
   case step2 =>
    rintro pre x8 l _ hpre hlt h ih
    have hprex8 := hpre
    replace h : r12Busy_L2 slot (x8 :: l) = v9 := h
    show VCL _ _ _ _ _ (envOf _) []
    obtain ⟨i7, hi⟩ : ∃ i : Int, i = (pre.length : Int) := ⟨_, rfl⟩
    have hix8 := hi
    rw [← hi]
    rw [r12Busy_L2] at h
    refine vcl_unroll ?_
    refine vc_seq ?_
    refine xsr ?_
    iterate 3 refine xp ?_
    refine xl ?_
    refine xp ?_
    refine xq ?_
    refine vc_cond rfl (fun _ => ?_) (fun hf => absurd hf (by simp; omega))
    refine vc_skip ?_
    refine vc_seq ?_
    refine vc_block ?_
    refine xsr ?_
    iterate 3 refine xp ?_
    refine ri rfl rfl rfl rfl rfl rfl rfl (by omega) (by rw [hix8]; exact idxp hprex8) ?_
    iterate 5 refine xp ?_
    refine xq ?_
    cases c12 : (x8.cell.slot == slot) with
    | true =>
     have h := cT c12 h
     refine vc_condT rfl ?_
     refine xsr ?_
     refine xp ?_
     refine xq ?_
     cases h
     have h := sumR hLv9
     refine vc_ret ⟨.inr rfl, [B true], (.cons rfl ⟨_, .d, .refl⟩ .nil), ?_⟩
     first | (rw [← h]; done) | (rw [← h]; rfl) | (rw [← h]; simp)
    | false =>
     have h := cF c12 h
     refine vc_condF rfl ?_
     refine vc_skip ?_
     refine xr ?_
     iterate 3 refine xp ?_
     refine xq ?_
     exact xv [] (ih () h) .nil (xh2 ⟨.e rfl (cntI hi hlt hlen), trivial⟩)
   case done2 =>
    rintro _ h
    replace h : r12Busy_L2 slot [] = v9 := h
    rw [r12Busy_L2] at h
    show VCL _ _ _ _ _ (envOf _) []
    refine vcl_unroll ?_
    refine vc_seq ?_
    refine xsr ?_
    iterate 3 refine xp ?_
    refine xl ?_
    refine xp ?_
    refine xq ?_
    refine vc_cond rfl (fun ht => absurd ht (by simp; try omega)) (fun _ => ?_)
    refine vc_exit ?_
    cases h
    exact xm [] .nil trivial
  ·rintro v10 rfl
   have h := sumL hLv9
   refine xsr ?_
   refine xp ?_
   refine xq ?_
   refine vc_ret ⟨.inr rfl, [B false], (.cons rfl ⟨_, .d, .refl⟩ .nil), ?_⟩
   first | (rw [← h]; done) | (rw [← h]; rfl) | (rw [← h]; simp)
def r13find_L1 (peer : Int) : List Near → Int → Sum (Unit) (Int)
 | [], i1 => .inl ()
 | x2 :: l, i1 => cond (x2.src == peer) (.inr i1) (r13find_L1 peer l (i1 + 1))
def r13find (near : (List Near)) (peer : Int) : Int := lt (r13find_L1 peer near 0) fun v3 => Sum.elim (fun v4 => (-1)) (fun v5 => v5) v3
theorem r13find_ok (near : (List Near)) (peer : Int) (r : Int) (h : r13find near peer = r) : PCalls Tryz.prog 109 [.list 31 (near.map encNear), I peer] (I r) := by
 unfold r13find at h
 refine xe 21 Tryz.func109 ?_
 refine xsr ?_
 refine xp ?_
 refine xq ?_
 refine vc_seq ?_
 refine xsr ?_
 refine xp ?_
 refine xq ?_
 obtain ⟨v3, hv3, hLv3⟩ := bindT h
 refine vc_mid2 v3 (fun v4 => []) (fun v4 => []) ?_ ?_
 ·refine vc_block ?_
  refine vc_loop ?_
  refine xK [] [(0, .d (.list 31 (near.map encNear))), (1, .d (I peer)), (5, .d (I 0))] .nil (xh3 trivial) ?_
  refine vcl_len 0 rfl (fun hlen => ?_)
  replace hlen := len_map hlen
  refine vcl_rec near (fun (pre l : List Near) (s : Unit) => r13find_L1 peer l (pre.length : Int)) v3 (fun pre s => envOf [(0, .d (.list 31 (near.map encNear))), (1, .d (I peer)), (5, .d (I (pre.length : Int)))]) (fun pre s => []) ?step1 ?done1 () hv3
  case step1 =>
   rintro pre x2 l _ hpre hlt h ih
   have hprex2 := hpre
   replace h : r13find_L1 peer (x2 :: l) (pre.length : Int) = v3 := h
   show VCL _ _ _ _ _ (envOf _) []
   obtain ⟨i1, hi⟩ : ∃ i : Int, i = (pre.length : Int) := ⟨_, rfl⟩
   have hix2 := hi
   rw [← hi] at h ⊢
   rw [r13find_L1] at h
   refine vcl_unroll ?_
   refine vc_seq ?_
   refine xsr ?_
   iterate 2 refine xp ?_
   refine xl ?_
   refine xp ?_
   refine xq ?_
   refine vc_cond rfl (fun _ => ?_) (fun hf => absurd hf (by simp; omega))
   refine vc_skip ?_
   refine vc_seq ?_
   refine vc_block ?_
   refine xsr ?_
   iterate 2 refine xp ?_
   refine ri rfl rfl rfl rfl rfl rfl rfl (by omega) (by rw [hix2]; exact idxp hprex2) ?_
   iterate 5 refine xp ?_
   refine xq ?_
   cases c6 : (x2.src == peer) with
   | true =>
    have h := cT c6 h
    refine vc_condT rfl ?_
    refine xsr ?_
    iterate 2 refine xp ?_
    refine xq ?_
    cases h
    have h := sumR hLv3
    refine vc_ret ⟨.inr rfl, [I i1], (.cons rfl ⟨_, .d, .refl⟩ .nil), ?_⟩
    first | (rw [← h]; done) | (rw [← h]; rfl) | (rw [← h]; simp)
   | false =>
    have h := cF c6 h
    refine vc_condF rfl ?_
    refine vc_skip ?_
    refine xr ?_
    iterate 3 refine xp ?_
    refine xq ?_
    exact xv [] (ih () (by show r13find_L1 peer _ (((pre ++ [x2]).length : Nat) : Int) = _; rw [cnt1, ← hi]; exact h)) .nil (xh2 ⟨.e rfl (cntI hi hlt hlen), trivial⟩)
  case done1 =>
   rintro _ h
   replace h : r13find_L1 peer [] (near.length : Int) = v3 := h
   rw [r13find_L1] at h
   show VCL _ _ _ _ _ (envOf _) []
   refine vcl_unroll ?_
   refine vc_seq ?_
   refine xsr ?_
   iterate 2 refine xp ?_
   refine xl ?_
   refine xp ?_
   refine xq ?_
   refine vc_cond rfl (fun ht => absurd ht (by simp; try omega)) (fun _ => ?_)
   refine vc_exit ?_
   cases h
   exact xm [] .nil trivial
 ·rintro v4 rfl
  have h := sumL hLv3
  refine xsr ?_
  refine xp ?_
  refine xq ?_
  refine vc_ret ⟨.inr rfl, [I (-1)], (.cons rfl ⟨_, .d, .refl⟩ .nil), ?_⟩
  first | (rw [← h]; done) | (rw [← h]; rfl) | (rw [← h]; simp)
def r13Possible (a0 : Layout) (t : Table) (me : Int) (near : (List Near)) (peer : Int) (a5 : Cell) : Option (Bool) := cond ((decide ((r13find near peer) < 0)) || (r12Busy t a5.slot)) (some false) (Option.bind (elt near (r13find near peer)) fun v3 => some (cond (r13InSlot a0 v3 a5.slot) false (!(r13Foreign a0 near a5 me))))
theorem r13Possible_ok (a0 : Layout) (t : Table) (me : Int) (near : (List Near)) (peer : Int) (a5 : Cell) (r : Bool) (h : r13Possible a0 t me near peer a5 = some r) : PCalls Tryz.prog 57 [encLayout a0, encTable t, I me, .list 31 (near.map encNear), I peer, encCell a5] (B r) := by
 unfold r13Possible at h
 refine xe 48 Tryz.func57 ?_
 refine xsr ?_
 refine xa ?_
 refine xa ?_
 refine xa ?_
 refine xp ?_
 refine xq ?_
 refine vc_seq ?_
 refine xk [] [(2, .d (I me)), (3, .d (.list 31 (near.map encNear))), (4, .d (I peer)), (6, .d (.ptr [I a0.nodes, I a0.data])), (7, .d (.ptr [.list 4 (t.uses.map encUse), .list 5 (t.grants.map encGrant), .list 3 (t.asks.map encAsk)])), (11, .d (.ptr [I a5.slot, I a5.offset]))] .nil (xh3 ⟨.z (.own' rfl (.cons .d (.cons .d .nil))) .refl, ⟨.z (.own' rfl (.cons .d (.cons .d (.cons .d .nil)))) .refl, ⟨.z (.own' rfl (.cons .d (.cons .d .nil))) .refl, trivial⟩⟩⟩) ?_
 refine xr ?_
 iterate 2 refine xp ?_
 refine xc (r13find_ok near peer _ rfl) ?_
 refine xp ?_
 refine xq ?_
 refine xsr ?_
 iterate 3 refine xp ?_
 refine xc (r12Busy_ok t a5.slot _ rfl) ?_
 refine xp ?_
 refine xq ?_
 refine vc_seq ?_
 refine vc_seq ?_
 refine vc_midQ [(2, .d (I me)), (3, .d (.list 31 (near.map encNear))), (6, .d (.ptr [I a0.nodes, I a0.data])), (11, .d (.ptr [I a5.slot, I a5.offset])), (13, .d (I (r13find near peer))), (28, .d (B ((decide ((r13find near peer) < 0)) || (r12Busy t a5.slot))))] [] ?_ ?_
 ·refine xr ?_
  iterate 3 refine xp ?_
  cases c1 : decide ((r13find near peer) < 0) with
  | true =>
   refine xs ?_
   refine xp ?_
   refine xq ?_
   exact xm [] .nil (xh5 (xh1 trivial))
  | false =>
   iterate 2 refine xp ?_
   refine xq ?_
   exact xm [] .nil (xh5 (xh1 trivial))
 ·cases c2 : ((decide ((r13find near peer) < 0)) || (r12Busy t a5.slot)) with
  | true =>
   have h := cT c2 h
   refine vc_condT rfl ?_
   refine xsr ?_
   refine xp ?_
   refine xq ?_
   replace h := Option.some.inj h
   refine vc_ret ⟨.inr rfl, [B false], (.cons rfl ⟨_, .d, .refl⟩ .nil), ?_⟩
   first | (rw [← h]; done) | (rw [← h]; rfl) | (rw [← h]; simp)
  | false =>
   have h := cF c2 h
   refine vc_condF rfl ?_
   refine vc_skip ?_
   refine xsd ?_
   iterate 3 refine xp ?_
   obtain ⟨v3, hv3, h⟩ := bindO h
   refine ri rfl rfl rfl rfl rfl rfl rfl (elt0 hv3) (eltm _ hv3) ?_
   iterate 3 refine xp ?_
   refine xc (r13InSlot_ok a0 v3 a5.slot _ rfl) ?_
   refine xp ?_
   refine xq ?_
   refine xsr ?_
   iterate 4 refine xp ?_
   refine xc (r13Foreign_ok a0 near a5 me _ rfl) ?_
   refine xp ?_
   refine xq ?_
   refine vc_seq ?_
   refine vc_midQ [(12, .d (B (cond (r13InSlot a0 v3 a5.slot) false (!(r13Foreign a0 near a5 me)))))] [] ?_ ?_
   ·refine xr ?_
    iterate 3 refine xp ?_
    cases c4 : (r13InSlot a0 v3 a5.slot) with
    | true =>
     iterate 2 refine xs ?_
     iterate 2 refine xp ?_
     refine xq ?_
     exact xm [] .nil (xh1 trivial)
    | false =>
     iterate 4 refine xp ?_
     refine xq ?_
     exact xm [] .nil (xh1 trivial)
   ·replace h := Option.some.inj h
    refine vc_ret ⟨.inr rfl, [B (cond (r13InSlot a0 v3 a5.slot) false (!(r13Foreign a0 near a5 me)))], (.cons rfl ⟨_, .d, .refl⟩ .nil), ?_⟩
    first | (rw [← h]; done) | (rw [← h]; rfl) | (rw [← h]; simp)
def r13asked_L1 (slot : Int) : List Ask → Sum (Unit) (Bool)
 | [] => .inl ()
 | x2 :: l => cond (x2.cell.slot == slot) (.inr true) (r13asked_L1 slot l)
def r13asked (asks : (List Ask)) (slot : Int) : Bool := lt (r13asked_L1 slot asks) fun v3 => Sum.elim (fun v4 => false) (fun v5 => v5) v3
theorem r13asked_ok (asks : (List Ask)) (slot : Int) (r : Bool) (h : r13asked asks slot = r) : PCalls Tryz.prog 58 [.list 3 (asks.map encAsk), I slot] (B r) := by
 unfold r13asked at h
 refine xe 20 Tryz.func58 ?_
 refine xsr ?_
 refine xp ?_
 refine xq ?_
 refine vc_seq ?_
 refine xsr ?_
 refine xp ?_
 refine xq ?_
 obtain ⟨v3, hv3, hLv3⟩ := bindT h
 refine vc_mid2 v3 (fun v4 => []) (fun v4 => []) ?_ ?_
 ·refine vc_block ?_
  refine vc_loop ?_
  refine xK [] [(0, .d (.list 3 (asks.map encAsk))), (1, .d (I slot)), (5, .d (I 0))] .nil (xh3 trivial) ?_
  refine vcl_len 0 rfl (fun hlen => ?_)
  replace hlen := len_map hlen
  refine vcl_rec asks (fun (pre l : List Ask) (s : Unit) => r13asked_L1 slot l) v3 (fun pre s => envOf [(0, .d (.list 3 (asks.map encAsk))), (1, .d (I slot)), (5, .d (I (pre.length : Int)))]) (fun pre s => []) ?step1 ?done1 () hv3
  case step1 =>
   rintro pre x2 l _ hpre hlt h ih
   have hprex2 := hpre
   replace h : r13asked_L1 slot (x2 :: l) = v3 := h
   show VCL _ _ _ _ _ (envOf _) []
   obtain ⟨i1, hi⟩ : ∃ i : Int, i = (pre.length : Int) := ⟨_, rfl⟩
   have hix2 := hi
   rw [← hi]
   rw [r13asked_L1] at h
   refine vcl_unroll ?_
   refine vc_seq ?_
   refine xsr ?_
   iterate 2 refine xp ?_
   refine xl ?_
   refine xp ?_
   refine xq ?_
   refine vc_cond rfl (fun _ => ?_) (fun hf => absurd hf (by simp; omega))
   refine vc_skip ?_
   refine vc_seq ?_
   refine vc_block ?_
   refine xsr ?_
   iterate 2 refine xp ?_
   refine ri rfl rfl rfl rfl rfl rfl rfl (by omega) (by rw [hix2]; exact idxp hprex2) ?_
   iterate 5 refine xp ?_
   refine xq ?_
   cases c6 : (x2.cell.slot == slot) with
   | true =>
    have h := cT c6 h
    refine vc_condT rfl ?_
    refine xsr ?_
    refine xp ?_
    refine xq ?_
    cases h
    have h := sumR hLv3
    refine vc_ret ⟨.inr rfl, [B true], (.cons rfl ⟨_, .d, .refl⟩ .nil), ?_⟩
    first | (rw [← h]; done) | (rw [← h]; rfl) | (rw [← h]; simp)
   | false =>
    have h := cF c6 h
    refine vc_condF rfl ?_
    refine vc_skip ?_
    refine xr ?_
    iterate 3 refine xp ?_
    refine xq ?_
    exact xv [] (ih () h) .nil (xh2 ⟨.e rfl (cntI hi hlt hlen), trivial⟩)
  case done1 =>
   rintro _ h
   replace h : r13asked_L1 slot [] = v3 := h
   rw [r13asked_L1] at h
   show VCL _ _ _ _ _ (envOf _) []
   refine vcl_unroll ?_
   refine vc_seq ?_
   refine xsr ?_
   iterate 2 refine xp ?_
   refine xl ?_
   refine xp ?_
   refine xq ?_
   refine vc_cond rfl (fun ht => absurd ht (by simp; try omega)) (fun _ => ?_)
   refine vc_exit ?_
   cases h
   exact xm [] .nil trivial
 ·rintro v4 rfl
  have h := sumL hLv3
  refine xsr ?_
  refine xp ?_
  refine xq ?_
  refine vc_ret ⟨.inr rfl, [B false], (.cons rfl ⟨_, .d, .refl⟩ .nil), ?_⟩
  first | (rw [← h]; done) | (rw [← h]; rfl) | (rw [← h]; simp)
def r13sorted_L2 (i2 : Int) : List Ask → (List Ask) → Option (List Ask)
 | [], p4 => some p4
 | x6 :: l, p4 => Option.bind (cond (x6.cell.slot == i2) (cond (decide (p4.length + 1 ≤ 4294967296)) (some (p4 ++ [x6])) none) (some p4)) fun v8 => r13sorted_L2 i2 l v8
def r13sorted_L1 (asks : (List Ask)) : Nat → Int → (List Ask) → Option (List Ask)
 | 0, i2, p1 => some p1
 | k + 1, i2, p1 => Option.bind (r13sorted_L2 i2 asks p1) fun v7 => r13sorted_L1 asks k (i2 + 1) v7
def r13sorted (asks : (List Ask)) (data : Int) : Option ((List Ask)) := cond (decide (data ≤ 9223372036854775807)) (Option.bind (r13sorted_L1 asks (data - 0).toNat 0 []) fun v3 => some v3) none
theorem r13sorted_ok (asks : (List Ask)) (data : Int) (r : (List Ask)) (h : r13sorted asks data = some r) : PCalls Tryz.prog 59 [.list 3 (asks.map encAsk), I data] (.list 3 (r.map encAsk)) := by
 unfold r13sorted at h
 refine xe 35 Tryz.func59 ?_
 refine xsr ?_
 refine xp ?_
 refine xq ?_
 refine xsr ?_
 refine xp ?_
 refine xq ?_
 refine vc_seq ?_
 refine xsr ?_
 refine xp ?_
 refine xq ?_
 refine VC.weak (weak_ownNil 5 63 3 rfl rfl) ?_
 obtain ⟨hn, h⟩ := gd h; replace hn := dT hn
 obtain ⟨v3, hv3, hLv3⟩ := bindO h
 refine vc_midQ [(5, .osl 0 v3.length)] [.arr 63 3 (v3.map encAsk)] ?_ ?_
 ·refine vc_block ?_
  refine vc_loop ?_
  refine xK [0] [(0, .d (.list 3 (asks.map encAsk))), (1, .d (I data)), (5, .osl 0 0), (6, .d (I 0))] (σ' := [.arr 63 3 ([].map encAsk)]) (.cons rfl (.arr (by first | rfl | (simp <;> rfl))) .nil) (xh3 (xh1 trivial)) ?_
  refine vcl_num data (fun (k : Nat) (i : Int) (s : List Ask) => r13sorted_L1 asks k i s) (some v3) (fun i s => envOf [(0, .d (.list 3 (asks.map encAsk))), (1, .d (I data)), (5, .osl 0 s.length), (6, .d (I i))]) (fun i s => [.arr 63 3 (s.map encAsk)]) ?step1 ?done1 0 [] (by omega) hv3
  case step1 =>
   rintro k i2 p1 h0 h1 h ih
   replace h : r13sorted_L1 asks (k + 1) i2 p1 = some v3 := h
   rw [r13sorted_L1] at h
   show VCL _ _ _ _ _ (envOf _) (_ :: _)
   refine vcl_unroll ?_
   refine vc_seq ?_
   refine xsr ?_
   iterate 3 refine xp ?_
   refine xq ?_
   refine vc_cond rfl (fun _ => ?_) (fun hf => absurd hf (by simp; omega))
   refine vc_skip ?_
   refine vc_seq ?_
   refine vc_block ?_
   refine xsr ?_
   refine xp ?_
   refine xq ?_
   obtain ⟨v7, hv7, hLv7⟩ := bindO h
   refine vc_midQ [(0, .d (.list 3 (asks.map encAsk))), (1, .d (I data)), (5, .osl 0 v7.length), (6, .d (I i2))] [.arr 63 3 (v7.map encAsk)] ?_ ?_
   ·refine vc_block ?_
    refine vc_loop ?_
    refine xK [0] [(0, .d (.list 3 (asks.map encAsk))), (1, .d (I data)), (5, .osl 0 p1.length), (6, .d (I i2)), (7, .d (I 0))] (σ' := [.arr 63 3 (p1.map encAsk)]) (.cons rfl (.arr (by first | rfl | (simp <;> rfl))) .nil) (xh5 trivial) ?_
    refine vcl_len 0 rfl (fun hlen => ?_)
    replace hlen := len_map hlen
    refine vcl_rec asks (fun (pre l : List Ask) (s : List Ask) => r13sorted_L2 i2 l s) (some v7) (fun pre s => envOf [(0, .d (.list 3 (asks.map encAsk))), (1, .d (I data)), (5, .osl 0 s.length), (6, .d (I i2)), (7, .d (I (pre.length : Int)))]) (fun pre s => [.arr 63 3 (s.map encAsk)]) ?step2 ?done2 p1 hv7
    case step2 =>
     rintro pre x6 l p4 hpre hlt h ih
     have hprex6 := hpre
     replace h : r13sorted_L2 i2 (x6 :: l) p4 = some v7 := h
     show VCL _ _ _ _ _ (envOf _) (_ :: _)
     obtain ⟨i5, hi⟩ : ∃ i : Int, i = (pre.length : Int) := ⟨_, rfl⟩
     have hix6 := hi
     rw [← hi]
     rw [r13sorted_L2] at h
     refine vcl_unroll ?_
     refine vc_seq ?_
     refine xsr ?_
     iterate 2 refine xp ?_
     refine xl ?_
     refine xp ?_
     refine xq ?_
     refine vc_cond rfl (fun _ => ?_) (fun hf => absurd hf (by simp; omega))
     refine vc_skip ?_
     refine vc_seq ?_
     refine vc_block ?_
     refine xsr ?_
     iterate 2 refine xp ?_
     refine ri rfl rfl rfl rfl rfl rfl rfl (by omega) (by rw [hix6]; exact idxp hprex6) ?_
     iterate 5 refine xp ?_
     refine xq ?_
     obtain ⟨v8, hv8, h⟩ := bindO h
     refine vc_midQ [(0, .d (.list 3 (asks.map encAsk))), (1, .d (I data)), (5, .osl 0 v8.length), (6, .d (I i2)), (7, .d (I i5))] [.arr 63 3 (v8.map encAsk)] ?_ ?_
     ·replace h := hv8; clear hv8
      cases c9 : (x6.cell.slot == i2) with
      | true =>
       have h := cT c9 h
       refine vc_condT rfl ?_
       refine xr ?_
       iterate 3 refine xp ?_
       refine ri rfl rfl rfl rfl rfl rfl rfl (by omega) (by rw [hix6]; exact idxp hprex6) ?_
       refine xp ?_
       refine xb ?_
       obtain ⟨g10, h⟩ := gd h; replace g10 := dT g10
       refine rap rfl rfl rfl rfl rfl rfl rfl rfl .list rfl rfl rfl rfl (by simp) (by simp; omega) (by simp; omega) ?_
       refine xp ?_
       refine xq ?_
       cases h
       exact xm [0] ((.cons rfl (.arr (by first | rfl | (simp <;> rfl))) .nil)) (xh2 ⟨.h (oslE rfl (by first | rfl | (simp <;> rfl))) rfl, (xh2 trivial)⟩)
      | false =>
       have h := cF c9 h
       refine vc_condF rfl ?_
       refine vc_skip ?_
       cases h
       exact xm [0] ((.cons rfl (.arr (by first | rfl | (simp <;> rfl))) .nil)) (xh2 ⟨.h (oslE rfl (by first | rfl | (simp <;> rfl))) rfl, (xh2 trivial)⟩)
     ·refine xr ?_
      iterate 3 refine xp ?_
      refine xq ?_
      exact xv [0] (ih v8 h) (.cons rfl (.arr (by first | rfl | (simp <;> rfl))) .nil) (xh3 (xh1 ⟨.e rfl (cntI hi hlt hlen), trivial⟩))
    case done2 =>
     rintro p4 h
     replace h : r13sorted_L2 i2 [] p4 = some v7 := h
     rw [r13sorted_L2] at h
     show VCL _ _ _ _ _ (envOf _) (_ :: _)
     refine vcl_unroll ?_
     refine vc_seq ?_
     refine xsr ?_
     iterate 2 refine xp ?_
     refine xl ?_
     refine xp ?_
     refine xq ?_
     refine vc_cond rfl (fun ht => absurd ht (by simp; try omega)) (fun _ => ?_)
     refine vc_exit ?_
     cases h
     exact xm [0] (.cons rfl (.arr (by first | rfl | (simp <;> rfl))) .nil) (xh3 (xh1 trivial))
   ·have h := hLv7
    refine xr ?_
    iterate 3 refine xp ?_
    refine xq ?_
    exact xv [0] (ih v7 h) (.cons rfl (.arr (by first | rfl | (simp <;> rfl))) .nil) (xh3 ⟨.e rfl (numD h0 h1 hn), trivial⟩)
  case done1 =>
   rintro i2 p1 h0 h1 h
   replace h : r13sorted_L1 asks 0 i2 p1 = some v3 := h
   rw [r13sorted_L1] at h
   show VCL _ _ _ _ _ (envOf _) (_ :: _)
   refine vcl_unroll ?_
   refine vc_seq ?_
   refine xsr ?_
   iterate 3 refine xp ?_
   refine xq ?_
   refine vc_cond rfl (fun ht => absurd ht (by simp; try omega)) (fun _ => ?_)
   refine vc_exit ?_
   cases h
   exact xm [0] (.cons rfl (.arr (by first | rfl | (simp <;> rfl))) .nil) (xh1 trivial)
 ·have h := hLv3
  refine vc_seq ?_
  refine xk [] [(5, .d (.list 3 (v3.map encAsk)))] .nil ⟨.z (.osl rfl (by simp)) .refl, trivial⟩ ?_
  refine xr ?_
  iterate 2 refine xp ?_
  refine xq ?_
  replace h := Option.some.inj h
  refine vc_ret ⟨.inr rfl, [.list 3 (v3.map encAsk)], (.cons rfl ⟨_, .d, .refl⟩ .nil), ?_⟩
  first | (rw [← h]; done) | (rw [← h]; rfl) | (rw [← h]; simp)
def r12Expire_L1 (frame : Int) : List Grant → (List Grant) → Option (List Grant)
 | [], p3 => some p3
 | x5 :: l, p3 => Option.bind (cond (decide (x5.til ≥ frame)) (cond (decide (p3.length + 1 ≤ 4294967296)) (some (p3 ++ [x5])) none) (some p3)) fun v7 => r12Expire_L1 frame l v7
def r12Expire (t : Table) (frame : Int) : Option (Table) := cond (decide (0 + t.uses.length ≤ 4294967296)) (cond (decide (0 + t.asks.length ≤ 4294967296)) (Option.bind (r12Expire_L1 frame t.grants []) fun v6 => some ⟨t.uses, v6, t.asks⟩) none) none
theorem r12Expire_ok (t : Table) (frame : Int) (r : Table) (h : r12Expire t frame = some r) : PCalls Tryz.prog 60 [encTable t, I frame] (encTable r) := by
 unfold r12Expire at h
 refine xe 45 Tryz.func60 ?_
 refine xsr ?_
 refine xa ?_
 refine xa ?_
 refine xq ?_
 refine vc_seq ?_
 refine xk [1] [(1, .d (I frame)), (2, .d (.ptr [.list 4 (t.uses.map encUse), .list 5 (t.grants.map encGrant), .list 3 (t.asks.map encAsk)])), (4, .own 0 0)] (σ' := [.cells [.d (.lit (.slice none 0 0)), .d (.lit (.slice none 0 0)), .d (.lit (.slice none 0 0))]]) (.cons rfl (.cells (.cons (.h rfl rfl) (.cons (.h rfl rfl) (.cons (.h rfl rfl) .nil)))) .nil) (xh1 ⟨.z (.own' rfl (.cons .d (.cons .d (.cons .d .nil)))) .refl, (xh1 trivial)⟩) ?_
 refine xr ?_
 refine xa ?_
 refine xq ?_
 refine vc_seq ?_
 refine VC.weak (weak_ownNilC 1 0 61 4 rfl rfl rfl rfl) ?_
 refine xr ?_
 refine xp ?_
 refine xR ?_
 iterate 2 refine xp ?_
 obtain ⟨g1, h⟩ := gd h; replace g1 := dT g1
 refine rap rfl rfl rfl rfl rfl rfl rfl rfl .list rfl rfl rfl rfl (by simp) (by simp; omega) (by simp; omega) ?_
 refine xp ?_
 refine xw ?_
 refine xq ?_
 refine vc_seq ?_
 refine VC.weak (weak_ownNilC 1 2 63 3 rfl rfl rfl rfl) ?_
 refine xk [0, 1, 3] [(1, .d (I frame)), (2, .d (.ptr [.list 4 (t.uses.map encUse), .list 5 (t.grants.map encGrant), .list 3 (t.asks.map encAsk)])), (4, .own 0 0), (5, .own 1 0)] (σ' := [.cells [.d (.lit (.slice none 0 0)), .d (.lit (.slice none 0 0)), .d (.lit (.slice none 0 0))], .cells [.d (.list 4 (t.uses.map encUse)), .d (.lit (.slice none 0 0)), .osl 2 0], .arr 63 3 ([].map encAsk)]) (.cons rfl (.cells (.cons (.h rfl rfl) (.cons (.h rfl rfl) (.cons (.h rfl rfl) .nil)))) (.cons rfl (.cells (.cons (.z (.osl rfl (by simp)) .refl) (.cons (.h rfl rfl) (.cons (.h rfl rfl) .nil)))) (.cons rfl (.arr (by first | rfl | (simp <;> rfl))) .nil))) (xh3 (xh1 trivial)) ?_
 refine xr ?_
 refine xp ?_
 refine xR ?_
 iterate 2 refine xp ?_
 obtain ⟨g2, h⟩ := gd h; replace g2 := dT g2
 refine rap rfl rfl rfl rfl rfl rfl rfl rfl .list rfl rfl rfl rfl (by simp) (by simp; omega) (by simp; omega) ?_
 refine xp ?_
 refine xw ?_
 refine xq ?_
 refine vc_seq ?_
 refine vc_seq ?_
 refine xk [0, 1] [(1, .d (I frame)), (2, .d (.ptr [.list 4 (t.uses.map encUse), .list 5 (t.grants.map encGrant), .list 3 (t.asks.map encAsk)])), (4, .own 0 0), (5, .own 1 0)] (σ' := [.cells [.d (.lit (.slice none 0 0)), .d (.lit (.slice none 0 0)), .d (.lit (.slice none 0 0))], .cells [.d (.list 4 (t.uses.map encUse)), .d (.lit (.slice none 0 0)), .d (.list 3 (t.asks.map encAsk))]]) (.cons rfl (.cells (.cons (.h rfl rfl) (.cons (.h rfl rfl) (.cons (.h rfl rfl) .nil)))) (.cons rfl (.cells (.cons (.h rfl rfl) (.cons (.h rfl rfl) (.cons (.z (.osl rfl (by simp)) .refl) .nil)))) .nil)) (xh3 (xh1 trivial)) ?_
 refine xr ?_
 refine xp ?_
 refine xq ?_
 refine VC.weak (weak_ownNilC 1 1 59 5 rfl rfl rfl rfl) ?_
 obtain ⟨v6, hv6, hLv6⟩ := bindO h
 refine vc_midQ [(4, .own 0 0), (5, .own 1 0)] [.cells [.d (.lit (.slice none 0 0)), .d (.lit (.slice none 0 0)), .d (.lit (.slice none 0 0))], .cells [.d (.list 4 (t.uses.map encUse)), .osl 2 v6.length, .d (.list 3 (t.asks.map encAsk))], .arr 59 5 (v6.map encGrant)] ?_ ?_
 ·refine vc_block ?_
  refine vc_loop ?_
  refine xK [0, 1, 2] [(1, .d (I frame)), (2, .d (.ptr [.list 4 (t.uses.map encUse), .list 5 (t.grants.map encGrant), .list 3 (t.asks.map encAsk)])), (4, .own 0 0), (5, .own 1 0), (6, .d (I 0))] (σ' := [.cells [.d (.lit (.slice none 0 0)), .d (.lit (.slice none 0 0)), .d (.lit (.slice none 0 0))], .cells [.d (.list 4 (t.uses.map encUse)), .osl 2 0, .d (.list 3 (t.asks.map encAsk))], .arr 59 5 ([].map encGrant)]) (.cons rfl (.cells (.cons (.h rfl rfl) (.cons (.h rfl rfl) (.cons (.h rfl rfl) .nil)))) (.cons rfl (.cells (.cons (.h rfl rfl) (.cons (.h rfl rfl) (.cons (.h rfl rfl) .nil)))) (.cons rfl (.arr (by first | rfl | (simp <;> rfl))) .nil))) (xh5 trivial) ?_
  refine vcl_lenS 2 rfl (.ptr 1 rfl .here) (fun hlen => ?_)
  replace hlen := len_map hlen
  refine vcl_rec t.grants (fun (pre l : List Grant) (s : List Grant) => r12Expire_L1 frame l s) (some v6) (fun pre s => envOf [(1, .d (I frame)), (2, .d (.ptr [.list 4 (t.uses.map encUse), .list 5 (t.grants.map encGrant), .list 3 (t.asks.map encAsk)])), (4, .own 0 0), (5, .own 1 0), (6, .d (I (pre.length : Int)))]) (fun pre s => [.cells [.d (.lit (.slice none 0 0)), .d (.lit (.slice none 0 0)), .d (.lit (.slice none 0 0))], .cells [.d (.list 4 (t.uses.map encUse)), .osl 2 s.length, .d (.list 3 (t.asks.map encAsk))], .arr 59 5 (s.map encGrant)]) ?step1 ?done1 [] hv6
  case step1 =>
   rintro pre x5 l p3 hpre hlt h ih
   have hprex5 := hpre
   replace h : r12Expire_L1 frame (x5 :: l) p3 = some v6 := h
   show VCL _ _ _ _ _ (envOf _) (_ :: _)
   obtain ⟨i4, hi⟩ : ∃ i : Int, i = (pre.length : Int) := ⟨_, rfl⟩
   have hix5 := hi
   rw [← hi]
   rw [r12Expire_L1] at h
   refine vcl_unroll ?_
   refine vc_seq ?_
   refine xsr ?_
   iterate 3 refine xp ?_
   refine xl ?_
   refine xp ?_
   refine xq ?_
   refine vc_cond rfl (fun _ => ?_) (fun hf => absurd hf (by simp; omega))
   refine vc_skip ?_
   refine vc_seq ?_
   refine vc_block ?_
   refine xsr ?_
   iterate 3 refine xp ?_
   refine ri rfl rfl rfl rfl rfl rfl rfl (by omega) (by rw [hix5]; exact idxp hprex5) ?_
   iterate 4 refine xp ?_
   refine xq ?_
   obtain ⟨v7, hv7, h⟩ := bindO h
   refine vc_midQ [(1, .d (I frame)), (2, .d (.ptr [.list 4 (t.uses.map encUse), .list 5 (t.grants.map encGrant), .list 3 (t.asks.map encAsk)])), (4, .own 0 0), (5, .own 1 0), (6, .d (I i4))] [.cells [.d (.lit (.slice none 0 0)), .d (.lit (.slice none 0 0)), .d (.lit (.slice none 0 0))], .cells [.d (.list 4 (t.uses.map encUse)), .osl 2 v7.length, .d (.list 3 (t.asks.map encAsk))], .arr 59 5 (v7.map encGrant)] ?_ ?_
   ·replace h := hv7; clear hv7
    cases c8 : decide (x5.til ≥ frame) with
    | true =>
     have h := cT c8 h
     refine vc_condT rfl ?_
     refine xd ?_
     refine xp ?_
     refine xR ?_
     iterate 3 refine xp ?_
     refine ri rfl rfl rfl rfl rfl rfl rfl (by omega) (by rw [hix5]; exact idxp hprex5) ?_
     refine xp ?_
     refine xb ?_
     obtain ⟨g9, h⟩ := gd h; replace g9 := dT g9
     refine rap rfl rfl rfl rfl rfl rfl rfl rfl .list rfl rfl rfl rfl (by simp) (by simp; omega) (by simp; omega) ?_
     refine xp ?_
     refine xw ?_
     refine xq ?_
     cases h
     exact xm [0, 1, 2] ((.cons rfl (.cells (.cons (.h rfl rfl) (.cons (.h rfl rfl) (.cons (.h rfl rfl) .nil)))) (.cons rfl (.cells (.cons (.h rfl rfl) (.cons (.h (oslE rfl (by first | rfl | (simp <;> rfl))) rfl) (.cons (.h rfl rfl) .nil)))) (.cons rfl (.arr (by first | rfl | (simp <;> rfl))) .nil)))) (xh5 trivial)
    | false =>
     have h := cF c8 h
     refine vc_condF rfl ?_
     refine vc_skip ?_
     cases h
     exact xm [0, 1, 2] ((.cons rfl (.cells (.cons (.h rfl rfl) (.cons (.h rfl rfl) (.cons (.h rfl rfl) .nil)))) (.cons rfl (.cells (.cons (.h rfl rfl) (.cons (.h (oslE rfl (by first | rfl | (simp <;> rfl))) rfl) (.cons (.h rfl rfl) .nil)))) (.cons rfl (.arr (by first | rfl | (simp <;> rfl))) .nil)))) (xh5 trivial)
   ·refine xr ?_
    iterate 3 refine xp ?_
    refine xq ?_
    exact xv [0, 1, 2] (ih v7 h) (.cons rfl (.cells (.cons (.h rfl rfl) (.cons (.h rfl rfl) (.cons (.h rfl rfl) .nil)))) (.cons rfl (.cells (.cons (.h rfl rfl) (.cons (.h rfl rfl) (.cons (.h rfl rfl) .nil)))) (.cons rfl (.arr (by first | rfl | (simp <;> rfl))) .nil))) (xh3 (xh1 ⟨.e rfl (cntI hi hlt hlen), trivial⟩))
  case done1 =>
   rintro p3 h
   replace h : r12Expire_L1 frame [] p3 = some v6 := h
   rw [r12Expire_L1] at h
   show VCL _ _ _ _ _ (envOf _) (_ :: _)
   refine vcl_unroll ?_
   refine vc_seq ?_
   refine xsr ?_
   iterate 3 refine xp ?_
   refine xl ?_
   refine xp ?_
   refine xq ?_
   refine vc_cond rfl (fun ht => absurd ht (by simp; try omega)) (fun _ => ?_)
   refine vc_exit ?_
   cases h
   exact xm [0, 1, 2] (.cons rfl (.cells (.cons (.h rfl rfl) (.cons (.h rfl rfl) (.cons (.h rfl rfl) .nil)))) (.cons rfl (.cells (.cons (.h rfl rfl) (.cons (.h rfl rfl) (.cons (.h rfl rfl) .nil)))) (.cons rfl (.arr (by first | rfl | (simp <;> rfl))) .nil))) (xh2 trivial)
 ·have h := hLv6
  refine vc_seq ?_
  refine xk [0, 1] [(4, .own 0 0), (5, .own 1 0)] (σ' := [.cells [.d (.lit (.slice none 0 0)), .d (.lit (.slice none 0 0)), .d (.lit (.slice none 0 0))], .cells [.d (.list 4 (t.uses.map encUse)), .d (.list 5 (v6.map encGrant)), .d (.list 3 (t.asks.map encAsk))]]) (.cons rfl (.cells (.cons (.h rfl rfl) (.cons (.h rfl rfl) (.cons (.h rfl rfl) .nil)))) (.cons rfl (.cells (.cons (.h rfl rfl) (.cons (.z (.osl rfl (by simp)) .refl) (.cons (.h rfl rfl) .nil)))) .nil)) (xh2 trivial) ?_
  refine xr ?_
  refine xR ?_
  refine xw ?_
  refine xq ?_
  replace h := Option.some.inj h
  refine vc_ret ⟨.inr rfl, [encTable ⟨t.uses, v6, t.asks⟩], (.cons rfl ⟨_, .d, .refl⟩ .nil), ?_⟩
  first | (rw [← h]; done) | (rw [← h]; rfl) | (rw [← h]; simp)
def r13renewed (a0 : Layout) (a1 : Grant) (me : Int) (near : (List Near)) (frame : Int) : Option (Grant) := cond (decide ((r13find near a1.peer) < 0)) (some a1) (Option.bind (elt near (r13find near a1.peer)) fun v2 => Option.bind (elt near (r13find near a1.peer)) fun v3 => Option.bind (elt near (r13find near a1.peer)) fun v4 => some ⟨⟨a1.cell.slot, a1.cell.offset⟩, a1.peer, a1.stamp, (cond ((lately v2 frame) && ((r13Uses a0 v3 a1.cell me) || (r13Asks a0 v4 a1.cell me))) (maxI a1.til (IntKind.i64.wrap (frame + 8))) (a1.til))⟩)
theorem r13renewed_ok (a0 : Layout) (a1 : Grant) (me : Int) (near : (List Near)) (frame : Int) (r : Grant) (h : r13renewed a0 a1 me near frame = some r) : PCalls Tryz.prog 61 [encLayout a0, encGrant a1, I me, .list 31 (near.map encNear), I frame] (encGrant r) := by
 unfold r13renewed at h
 refine xe 60 Tryz.func61 ?_
 refine xsr ?_
 refine xa ?_
 refine xa ?_
 refine xa ?_
 refine xq ?_
 refine vc_seq ?_
 refine xk [1, 2] [(2, .d (I me)), (3, .d (.list 31 (near.map encNear))), (4, .d (I frame)), (5, .d (.ptr [I a0.nodes, I a0.data])), (6, .own 0 0), (10, .own 1 0)] (σ' := [.cells [.d (I a1.cell.slot), .d (I a1.cell.offset), .d (I a1.peer), .d (I a1.stamp), .d (I a1.til)], .cells [.d (I 0), .d (I 0), .d (I 0), .d (I 0), .d (I 0)]]) (.cons rfl (.cells (.cons (.h rfl rfl) (.cons (.h rfl rfl) (.cons (.h rfl rfl) (.cons (.h rfl rfl) (.cons (.h rfl rfl) .nil)))))) (.cons rfl (.cells (.cons (.h rfl rfl) (.cons (.h rfl rfl) (.cons (.h rfl rfl) (.cons (.h rfl rfl) (.cons (.h rfl rfl) .nil)))))) .nil)) (xh3 ⟨.z (.own' rfl (.cons .d (.cons .d .nil))) .refl, (xh2 trivial)⟩) ?_
 refine xr ?_
 iterate 2 refine xp ?_
 refine xR ?_
 refine xc (r13find_ok near a1.peer _ rfl) ?_
 refine xp ?_
 refine xq ?_
 refine vc_seq ?_
 refine xsr ?_
 iterate 2 refine xp ?_
 refine xq ?_
 cases c1 : decide ((r13find near a1.peer) < 0) with
 | true =>
  have h := cT c1 h
  refine vc_condT rfl ?_
  refine xsr ?_
  refine xR ?_
  refine xw ?_
  refine xq ?_
  replace h := Option.some.inj h
  refine vc_ret ⟨.inr rfl, [encGrant a1], (.cons rfl ⟨_, .d, .refl⟩ .nil), ?_⟩
  first | (rw [← h]; done) | (rw [← h]; rfl) | (rw [← h]; simp)
 | false =>
  have h := cF c1 h
  refine vc_condF rfl ?_
  refine vc_skip ?_
  refine xsr ?_
  iterate 2 refine xp ?_
  obtain ⟨v2, hv2, h⟩ := bindO h
  refine ri rfl rfl rfl rfl rfl rfl rfl (elt0 hv2) (eltm _ hv2) ?_
  iterate 2 refine xp ?_
  refine xc (lately_ok v2 frame _ rfl) ?_
  refine xp ?_
  refine xq ?_
  refine xsd ?_
  iterate 3 refine xp ?_
  obtain ⟨v3, hv3, h⟩ := bindO h
  refine ri rfl rfl rfl rfl rfl rfl rfl (elt0 hv3) (eltm _ hv3) ?_
  iterate 2 refine xp ?_
  refine xR ?_
  refine xp ?_
  refine xc (r13Uses_ok a0 v3 a1.cell me _ rfl) ?_
  refine xp ?_
  refine xq ?_
  refine xsd ?_
  iterate 3 refine xp ?_
  obtain ⟨v4, hv4, h⟩ := bindO h
  refine ri rfl rfl rfl rfl rfl rfl rfl (elt0 hv4) (eltm _ hv4) ?_
  iterate 2 refine xp ?_
  refine xR ?_
  refine xp ?_
  refine xc (r13Asks_ok a0 v4 a1.cell me _ rfl) ?_
  refine xp ?_
  refine xq ?_
  refine vc_seq ?_
  refine vc_seq ?_
  refine xk [0, 1] [(4, .d (I frame)), (6, .own 0 0), (10, .own 1 0), (12, .d (B (lately v2 frame))), (13, .d (B (r13Uses a0 v3 a1.cell me))), (14, .d (B (r13Asks a0 v4 a1.cell me)))] (σ' := [.cells [.d (I a1.cell.slot), .d (I a1.cell.offset), .d (I a1.peer), .d (I a1.stamp), .d (I a1.til)], .cells [.d (I 0), .d (I 0), .d (I 0), .d (I 0), .d (I 0)]]) (.cons rfl (.cells (.cons (.h rfl rfl) (.cons (.h rfl rfl) (.cons (.h rfl rfl) (.cons (.h rfl rfl) (.cons (.h rfl rfl) .nil)))))) (.cons rfl (.cells (.cons (.h rfl rfl) (.cons (.h rfl rfl) (.cons (.h rfl rfl) (.cons (.h rfl rfl) (.cons (.h rfl rfl) .nil)))))) .nil)) (xh5 (xh1 trivial)) ?_
  refine vc_midQ [(4, .d (I frame)), (6, .own 0 0), (10, .own 1 0), (52, .d (B ((lately v2 frame) && ((r13Uses a0 v3 a1.cell me) || (r13Asks a0 v4 a1.cell me)))))] [.cells [.d (I a1.cell.slot), .d (I a1.cell.offset), .d (I a1.peer), .d (I a1.stamp), .d (I a1.til)], .cells [.d (I 0), .d (I 0), .d (I 0), .d (I 0), .d (I 0)]] ?_ ?_
  ·refine xr ?_
   iterate 2 refine xp ?_
   cases c5 : (lately v2 frame) with
   | true =>
    iterate 2 refine xp ?_
    cases c6 : (r13Uses a0 v3 a1.cell me) with
    | true =>
     refine xs ?_
     iterate 2 refine xp ?_
     refine xq ?_
     exact xm [0, 1] ((.cons rfl (.cells (.cons (.h rfl rfl) (.cons (.h rfl rfl) (.cons (.h rfl rfl) (.cons (.h rfl rfl) (.cons (.h rfl rfl) .nil)))))) (.cons rfl (.cells (.cons (.h rfl rfl) (.cons (.h rfl rfl) (.cons (.h rfl rfl) (.cons (.h rfl rfl) (.cons (.h rfl rfl) .nil)))))) .nil))) (xh3 (xh1 trivial))
    | false =>
     iterate 3 refine xp ?_
     refine xq ?_
     exact xm [0, 1] ((.cons rfl (.cells (.cons (.h rfl rfl) (.cons (.h rfl rfl) (.cons (.h rfl rfl) (.cons (.h rfl rfl) (.cons (.h rfl rfl) .nil)))))) (.cons rfl (.cells (.cons (.h rfl rfl) (.cons (.h rfl rfl) (.cons (.h rfl rfl) (.cons (.h rfl rfl) (.cons (.h rfl rfl) .nil)))))) .nil))) (xh3 (xh1 trivial))
   | false =>
    iterate 4 refine xs ?_
    refine xp ?_
    refine xq ?_
    exact xm [0, 1] ((.cons rfl (.cells (.cons (.h rfl rfl) (.cons (.h rfl rfl) (.cons (.h rfl rfl) (.cons (.h rfl rfl) (.cons (.h rfl rfl) .nil)))))) (.cons rfl (.cells (.cons (.h rfl rfl) (.cons (.h rfl rfl) (.cons (.h rfl rfl) (.cons (.h rfl rfl) (.cons (.h rfl rfl) .nil)))))) .nil))) (xh3 (xh1 trivial))
  ·refine vc_midQ [(6, .own 0 0), (10, .own 1 0)] [.cells [.d (I a1.cell.slot), .d (I a1.cell.offset), .d (I a1.peer), .d (I a1.stamp), .d (I (cond ((lately v2 frame) && ((r13Uses a0 v3 a1.cell me) || (r13Asks a0 v4 a1.cell me))) (maxI a1.til (IntKind.i64.wrap (frame + 8))) (a1.til)))], .cells [.d (I 0), .d (I 0), .d (I 0), .d (I 0), .d (I 0)]] ?_ ?_
   ·cases c7 : ((lately v2 frame) && ((r13Uses a0 v3 a1.cell me) || (r13Asks a0 v4 a1.cell me))) with
    | true =>
     refine vc_condT rfl ?_
     refine xr ?_
     refine xp ?_
     refine xR ?_
     iterate 4 refine xp ?_
     refine xw ?_
     refine xq ?_
     exact xm [0, 1] ((.cons rfl (.cells (.cons (.h rfl rfl) (.cons (.h rfl rfl) (.cons (.h rfl rfl) (.cons (.h rfl rfl) (.cons (.h rfl rfl) .nil)))))) (.cons rfl (.cells (.cons (.h rfl rfl) (.cons (.h rfl rfl) (.cons (.h rfl rfl) (.cons (.h rfl rfl) (.cons (.h rfl rfl) .nil)))))) .nil))) (xh2 trivial)
    | false =>
     refine vc_condF rfl ?_
     refine vc_skip ?_
     exact xm [0, 1] ((.cons rfl (.cells (.cons (.h rfl rfl) (.cons (.h rfl rfl) (.cons (.h rfl rfl) (.cons (.h rfl rfl) (.cons (.h rfl rfl) .nil)))))) (.cons rfl (.cells (.cons (.h rfl rfl) (.cons (.h rfl rfl) (.cons (.h rfl rfl) (.cons (.h rfl rfl) (.cons (.h rfl rfl) .nil)))))) .nil))) (xh2 trivial)
   ·refine vc_seq ?_
    refine xk [1] [(6, .d (.ptr [I a1.cell.slot, I a1.cell.offset, I a1.peer, I a1.stamp, I (cond ((lately v2 frame) && ((r13Uses a0 v3 a1.cell me) || (r13Asks a0 v4 a1.cell me))) (maxI a1.til (IntKind.i64.wrap (frame + 8))) (a1.til))])), (10, .own 0 0)] (σ' := [.cells [.d (I 0), .d (I 0), .d (I 0), .d (I 0), .d (I 0)]]) (.cons rfl (.cells (.cons (.h rfl rfl) (.cons (.h rfl rfl) (.cons (.h rfl rfl) (.cons (.h rfl rfl) (.cons (.h rfl rfl) .nil)))))) .nil) ⟨.z (.own' rfl (.cons .d (.cons .d (.cons .d (.cons .d (.cons .d .nil)))))) .refl, (xh1 trivial)⟩ ?_
    refine xr ?_
    refine xp ?_
    refine xw ?_
    refine xq ?_
    replace h := Option.some.inj h
    refine vc_ret ⟨.inr rfl, [encGrant ⟨⟨a1.cell.slot, a1.cell.offset⟩, a1.peer, a1.stamp, (cond ((lately v2 frame) && ((r13Uses a0 v3 a1.cell me) || (r13Asks a0 v4 a1.cell me))) (maxI a1.til (IntKind.i64.wrap (frame + 8))) (a1.til))⟩], (.cons rfl ⟨_, .d, .refl⟩ .nil), ?_⟩
    first | (rw [← h]; done) | (rw [← h]; rfl) | (rw [← h]; simp)
def r13used_L1 (a0 : Layout) (a2 : Cell) (but : Int) : List Near → Sum (Unit) (Bool)
 | [] => .inl ()
 | x2 :: l => cond ((r13Uses a0 x2 a2 (-1)) && (x2.src != but)) (.inr true) (r13used_L1 a0 a2 but l)
def r13used (a0 : Layout) (near : (List Near)) (a2 : Cell) (but : Int) : Bool := lt (r13used_L1 a0 a2 but near) fun v3 => Sum.elim (fun v4 => false) (fun v5 => v5) v3
theorem r13used_ok (a0 : Layout) (near : (List Near)) (a2 : Cell) (but : Int) (r : Bool) (h : r13used a0 near a2 but = r) : PCalls Tryz.prog 63 [encLayout a0, .list 31 (near.map encNear), encCell a2, I but] (B r) := by
 unfold r13used at h
 refine xe 35 Tryz.func63 ?_
 refine xsr ?_
 refine xa ?_
 refine xa ?_
 refine xp ?_
 refine xq ?_
 refine vc_seq ?_
 refine vc_seq ?_
 refine xk [] [(1, .d (.list 31 (near.map encNear))), (3, .d (I but)), (4, .d (.ptr [I a0.nodes, I a0.data])), (6, .d (.ptr [I a2.slot, I a2.offset]))] .nil (xh2 ⟨.z (.own' rfl (.cons .d (.cons .d .nil))) .refl, ⟨.z (.own' rfl (.cons .d (.cons .d .nil))) .refl, trivial⟩⟩) ?_
 refine xr ?_
 refine xp ?_
 refine xq ?_
 obtain ⟨v3, hv3, hLv3⟩ := bindT h
 refine vc_mid2 v3 (fun v4 => []) (fun v4 => []) ?_ ?_
 ·refine vc_block ?_
  refine vc_loop ?_
  refine xK [] [(1, .d (.list 31 (near.map encNear))), (3, .d (I but)), (4, .d (.ptr [I a0.nodes, I a0.data])), (6, .d (.ptr [I a2.slot, I a2.offset])), (9, .d (I 0))] .nil (xh5 trivial) ?_
  refine vcl_len 1 rfl (fun hlen => ?_)
  replace hlen := len_map hlen
  refine vcl_rec near (fun (pre l : List Near) (s : Unit) => r13used_L1 a0 a2 but l) v3 (fun pre s => envOf [(1, .d (.list 31 (near.map encNear))), (3, .d (I but)), (4, .d (.ptr [I a0.nodes, I a0.data])), (6, .d (.ptr [I a2.slot, I a2.offset])), (9, .d (I (pre.length : Int)))]) (fun pre s => []) ?step1 ?done1 () hv3
  case step1 =>
   rintro pre x2 l _ hpre hlt h ih
   have hprex2 := hpre
   replace h : r13used_L1 a0 a2 but (x2 :: l) = v3 := h
   show VCL _ _ _ _ _ (envOf _) []
   obtain ⟨i1, hi⟩ : ∃ i : Int, i = (pre.length : Int) := ⟨_, rfl⟩
   have hix2 := hi
   rw [← hi]
   rw [r13used_L1] at h
   refine vcl_unroll ?_
   refine vc_seq ?_
   refine xsr ?_
   iterate 2 refine xp ?_
   refine xl ?_
   refine xp ?_
   refine xq ?_
   refine vc_cond rfl (fun _ => ?_) (fun hf => absurd hf (by simp; omega))
   refine vc_skip ?_
   refine vc_seq ?_
   refine vc_block ?_
   refine xsd ?_
   iterate 3 refine xp ?_
   refine ri rfl rfl rfl rfl rfl rfl rfl (by omega) (by rw [hix2]; exact idxp hprex2) ?_
   iterate 2 refine xp ?_
   refine xc (r13Uses_ok a0 x2 a2 (-1) _ rfl) ?_
   refine xp ?_
   refine xq ?_
   refine vc_seq ?_
   refine vc_midQ [(1, .d (.list 31 (near.map encNear))), (3, .d (I but)), (4, .d (.ptr [I a0.nodes, I a0.data])), (6, .d (.ptr [I a2.slot, I a2.offset])), (9, .d (I i1)), (34, .d (B ((r13Uses a0 x2 a2 (-1)) && (x2.src != but))))] [] ?_ ?_
   ·refine xr ?_
    iterate 2 refine xp ?_
    cases c6 : (r13Uses a0 x2 a2 (-1)) with
    | true =>
     iterate 2 refine xp ?_
     refine ri rfl rfl rfl rfl rfl rfl rfl (by omega) (by rw [hix2]; exact idxp hprex2) ?_
     iterate 6 refine xp ?_
     refine xq ?_
     exact xm [] .nil (xh5 (xh1 trivial))
    | false =>
     iterate 8 refine xs ?_
     refine xp ?_
     refine xq ?_
     exact xm [] .nil (xh5 (xh1 trivial))
   ·cases c7 : ((r13Uses a0 x2 a2 (-1)) && (x2.src != but)) with
    | true =>
     have h := cT c7 h
     refine vc_condT rfl ?_
     refine xsr ?_
     refine xp ?_
     refine xq ?_
     cases h
     have h := sumR hLv3
     refine vc_ret ⟨.inr rfl, [B true], (.cons rfl ⟨_, .d, .refl⟩ .nil), ?_⟩
     first | (rw [← h]; done) | (rw [← h]; rfl) | (rw [← h]; simp)
    | false =>
     have h := cF c7 h
     refine vc_condF rfl ?_
     refine vc_skip ?_
     refine xr ?_
     iterate 3 refine xp ?_
     refine xq ?_
     exact xv [] (ih () h) .nil (xh3 (xh1 ⟨.e rfl (cntI hi hlt hlen), trivial⟩))
  case done1 =>
   rintro _ h
   replace h : r13used_L1 a0 a2 but [] = v3 := h
   rw [r13used_L1] at h
   show VCL _ _ _ _ _ (envOf _) []
   refine vcl_unroll ?_
   refine vc_seq ?_
   refine xsr ?_
   iterate 2 refine xp ?_
   refine xl ?_
   refine xp ?_
   refine xq ?_
   refine vc_cond rfl (fun ht => absurd ht (by simp; try omega)) (fun _ => ?_)
   refine vc_exit ?_
   cases h
   exact xm [] .nil trivial
 ·rintro v4 rfl
  have h := sumL hLv3
  refine xsr ?_
  refine xp ?_
  refine xq ?_
  refine vc_ret ⟨.inr rfl, [B false], (.cons rfl ⟨_, .d, .refl⟩ .nil), ?_⟩
  first | (rw [← h]; done) | (rw [← h]; rfl) | (rw [← h]; simp)
def r13Granted_L1 (a0 : Layout) (a3 : Cell) (me : Int) (frame : Int) : List Grant → Option (Sum (Unit) (Grant × Bool))
 | [] => some (.inl ())
 | x4 :: l => cond ((mine a0 x4 me frame) && ((x4.cell.slot == a3.slot) && ((x4.cell.offset == a3.offset) && true))) (some (.inr (x4, true))) (r13Granted_L1 a0 a3 me frame l)
def r13Granted (a0 : Layout) (near : (List Near)) (peer : Int) (a3 : Cell) (me : Int) (frame : Int) : Option (Grant × Bool) := cond (decide ((r13find near peer) < 0)) (some (⟨⟨0, 0⟩, 0, 0, 0⟩, false)) (Option.bind (elt near (r13find near peer)) fun v2 => Option.bind (r13Granted_L1 a0 a3 me frame v2.t.grants) fun v5 => Sum.elim (fun v6 => some (⟨⟨0, 0⟩, 0, 0, 0⟩, false)) (fun v7 => some v7) v5)
theorem r13Granted_ok (a0 : Layout) (near : (List Near)) (peer : Int) (a3 : Cell) (me : Int) (frame : Int) (r : Grant × Bool) (h : r13Granted a0 near peer a3 me frame = some r) : PCalls Tryz.prog 65 [encLayout a0, .list 31 (near.map encNear), I peer, encCell a3, I me, I frame] (.tuple [encGrant r.1, B r.2]) := by
 unfold r13Granted at h
 refine xe 59 Tryz.func65 ?_
 refine xsr ?_
 refine xa ?_
 refine xa ?_
 refine xa ?_
 refine xp ?_
 refine xq ?_
 refine vc_seq ?_
 refine xk [2] [(1, .d (.list 31 (near.map encNear))), (2, .d (I peer)), (4, .d (I me)), (5, .d (I frame)), (6, .d (.ptr [I a0.nodes, I a0.data])), (9, .d (.ptr [I a3.slot, I a3.offset])), (12, .own 0 0)] (σ' := [.cells [.d (I 0), .d (I 0), .d (I 0), .d (I 0), .d (I 0)]]) (.cons rfl (.cells (.cons (.h rfl rfl) (.cons (.h rfl rfl) (.cons (.h rfl rfl) (.cons (.h rfl rfl) (.cons (.h rfl rfl) .nil)))))) .nil) (xh3 (xh1 ⟨.z (.own' rfl (.cons .d (.cons .d .nil))) .refl, ⟨.z (.own' rfl (.cons .d (.cons .d .nil))) .refl, (xh1 trivial)⟩⟩)) ?_
 refine xr ?_
 iterate 2 refine xp ?_
 refine xc (r13find_ok near peer _ rfl) ?_
 refine xp ?_
 refine xq ?_
 refine vc_seq ?_
 refine xsr ?_
 iterate 2 refine xp ?_
 refine xq ?_
 cases c1 : decide ((r13find near peer) < 0) with
 | true =>
  have h := cT c1 h
  refine vc_condT rfl ?_
  refine xsr ?_
  refine xp ?_
  refine xw ?_
  refine xp ?_
  refine xq ?_
  replace h := Option.some.inj h
  refine vc_ret ⟨.inr rfl, [encGrant ⟨⟨0, 0⟩, 0, 0, 0⟩, B false], (.cons rfl ⟨_, .d, .refl⟩ (.cons rfl ⟨_, .d, .refl⟩ .nil)), ?_⟩
  first | (rw [← h]; done) | (rw [← h]; rfl) | (rw [← h]; simp)
 | false =>
  have h := cF c1 h
  refine vc_condF rfl ?_
  refine vc_skip ?_
  refine xsr ?_
  iterate 2 refine xp ?_
  obtain ⟨v2, hv2, h⟩ := bindO h
  refine ri rfl rfl rfl rfl rfl rfl rfl (elt0 hv2) (eltm _ hv2) ?_
  iterate 4 refine xp ?_
  refine xq ?_
  refine vc_seq ?_
  refine xsr ?_
  refine xp ?_
  refine xq ?_
  obtain ⟨v5, hv5, hLv5⟩ := bindO h
  refine vc_mid2 v5 (fun v6 => [(12, .own 0 0)]) (fun v6 => [.cells [.d (I 0), .d (I 0), .d (I 0), .d (I 0), .d (I 0)]]) ?_ ?_
  ·refine vc_block ?_
   refine vc_loop ?_
   refine xK [0] [(4, .d (I me)), (5, .d (I frame)), (6, .d (.ptr [I a0.nodes, I a0.data])), (9, .d (.ptr [I a3.slot, I a3.offset])), (12, .own 0 0), (15, .d (.list 5 (v2.t.grants.map encGrant))), (16, .d (I 0))] (σ' := [.cells [.d (I 0), .d (I 0), .d (I 0), .d (I 0), .d (I 0)]]) (.cons rfl (.cells (.cons (.h rfl rfl) (.cons (.h rfl rfl) (.cons (.h rfl rfl) (.cons (.h rfl rfl) (.cons (.h rfl rfl) .nil)))))) .nil) (xh5 (xh2 trivial)) ?_
   refine vcl_len 15 rfl (fun hlen => ?_)
   replace hlen := len_map hlen
   refine vcl_rec v2.t.grants (fun (pre l : List Grant) (s : Unit) => r13Granted_L1 a0 a3 me frame l) (some v5) (fun pre s => envOf [(4, .d (I me)), (5, .d (I frame)), (6, .d (.ptr [I a0.nodes, I a0.data])), (9, .d (.ptr [I a3.slot, I a3.offset])), (12, .own 0 0), (15, .d (.list 5 (v2.t.grants.map encGrant))), (16, .d (I (pre.length : Int)))]) (fun pre s => [.cells [.d (I 0), .d (I 0), .d (I 0), .d (I 0), .d (I 0)]]) ?step1 ?done1 () hv5
   case step1 =>
    rintro pre x4 l _ hpre hlt h ih
    have hprex4 := hpre
    replace h : r13Granted_L1 a0 a3 me frame (x4 :: l) = some v5 := h
    show VCL _ _ _ _ _ (envOf _) (_ :: _)
    obtain ⟨i3, hi⟩ : ∃ i : Int, i = (pre.length : Int) := ⟨_, rfl⟩
    have hix4 := hi
    rw [← hi]
    rw [r13Granted_L1] at h
    refine vcl_unroll ?_
    refine vc_seq ?_
    refine xsr ?_
    iterate 2 refine xp ?_
    refine xl ?_
    refine xp ?_
    refine xq ?_
    refine vc_cond rfl (fun _ => ?_) (fun hf => absurd hf (by simp; omega))
    refine vc_skip ?_
    refine vc_seq ?_
    refine vc_block ?_
    refine xsd ?_
    iterate 3 refine xp ?_
    refine ri rfl rfl rfl rfl rfl rfl rfl (by omega) (by rw [hix4]; exact idxp hprex4) ?_
    iterate 3 refine xp ?_
    refine xc (mine_ok a0 x4 me frame _ rfl) ?_
    refine xp ?_
    refine xq ?_
    refine vc_seq ?_
    refine vc_midQ [(4, .d (I me)), (5, .d (I frame)), (6, .d (.ptr [I a0.nodes, I a0.data])), (9, .d (.ptr [I a3.slot, I a3.offset])), (12, .own 0 0), (15, .d (.list 5 (v2.t.grants.map encGrant))), (16, .d (I i3)), (53, .d (B ((mine a0 x4 me frame) && ((x4.cell.slot == a3.slot) && ((x4.cell.offset == a3.offset) && true)))))] [.cells [.d (I 0), .d (I 0), .d (I 0), .d (I 0), .d (I 0)]] ?_ ?_
    ·refine xd ?_
     iterate 2 refine xp ?_
     cases c8 : (mine a0 x4 me frame) with
     | true =>
      iterate 2 refine xp ?_
      refine ri rfl rfl rfl rfl rfl rfl rfl (by omega) (by rw [hix4]; exact idxp hprex4) ?_
      iterate 5 refine xp ?_
      refine xq ?_
      exact xm [0] ((.cons rfl (.cells (.cons (.h rfl rfl) (.cons (.h rfl rfl) (.cons (.h rfl rfl) (.cons (.h rfl rfl) (.cons (.h rfl rfl) .nil)))))) .nil)) (xh5 (xh3 trivial))
     | false =>
      iterate 7 refine xs ?_
      refine xp ?_
      refine xq ?_
      exact xm [0] ((.cons rfl (.cells (.cons (.h rfl rfl) (.cons (.h rfl rfl) (.cons (.h rfl rfl) (.cons (.h rfl rfl) (.cons (.h rfl rfl) .nil)))))) .nil)) (xh5 (xh3 trivial))
    ·cases c9 : ((mine a0 x4 me frame) && ((x4.cell.slot == a3.slot) && ((x4.cell.offset == a3.offset) && true))) with
     | true =>
      have h := cT c9 h
      refine vc_condT rfl ?_
      refine xsr ?_
      iterate 2 refine xp ?_
      refine ri rfl rfl rfl rfl rfl rfl rfl (by omega) (by rw [hix4]; exact idxp hprex4) ?_
      refine xp ?_
      refine xw ?_
      refine xp ?_
      refine xq ?_
      cases h
      have h := sumR hLv5
      replace h := Option.some.inj h
      refine vc_ret ⟨.inr rfl, [encGrant x4, B true], (.cons rfl ⟨_, .d, .refl⟩ (.cons rfl ⟨_, .d, .refl⟩ .nil)), ?_⟩
      first | (rw [← h]; done) | (rw [← h]; rfl) | (rw [← h]; simp)
     | false =>
      have h := cF c9 h
      refine vc_condF rfl ?_
      refine vc_skip ?_
      refine xr ?_
      iterate 3 refine xp ?_
      refine xq ?_
      exact xv [0] (ih () h) (.cons rfl (.cells (.cons (.h rfl rfl) (.cons (.h rfl rfl) (.cons (.h rfl rfl) (.cons (.h rfl rfl) (.cons (.h rfl rfl) .nil)))))) .nil) (xh5 (xh1 ⟨.e rfl (cntI hi hlt hlen), trivial⟩))
   case done1 =>
    rintro _ h
    replace h : r13Granted_L1 a0 a3 me frame [] = some v5 := h
    rw [r13Granted_L1] at h
    show VCL _ _ _ _ _ (envOf _) (_ :: _)
    refine vcl_unroll ?_
    refine vc_seq ?_
    refine xsr ?_
    iterate 2 refine xp ?_
    refine xl ?_
    refine xp ?_
    refine xq ?_
    refine vc_cond rfl (fun ht => absurd ht (by simp; try omega)) (fun _ => ?_)
    refine vc_exit ?_
    cases h
    exact xm [0] (.cons rfl (.cells (.cons (.h rfl rfl) (.cons (.h rfl rfl) (.cons (.h rfl rfl) (.cons (.h rfl rfl) (.cons (.h rfl rfl) .nil)))))) .nil) (xh1 trivial)
  ·rintro v6 rfl
   have h := sumL hLv5
   refine xsr ?_
   refine xp ?_
   refine xw ?_
   refine xp ?_
   refine xq ?_
   replace h := Option.some.inj h
   refine vc_ret ⟨.inr rfl, [encGrant ⟨⟨0, 0⟩, 0, 0, 0⟩, B false], (.cons rfl ⟨_, .d, .refl⟩ (.cons rfl ⟨_, .d, .refl⟩ .nil)), ?_⟩
   first | (rw [← h]; done) | (rw [← h]; rfl) | (rw [← h]; simp)
def r13partner_L1 (peer : Int) : List Use → Sum (Unit) (Bool)
 | [] => .inl ()
 | x2 :: l => cond (x2.peer == peer) (.inr true) (r13partner_L1 peer l)
def r13partner_L2 (peer : Int) : List Ask → Sum (Unit) (Bool)
 | [] => .inl ()
 | x8 :: l => cond (x8.peer == peer) (.inr true) (r13partner_L2 peer l)
def r13partner (t : Table) (peer : Int) : Bool := lt (r13partner_L1 peer t.uses) fun v3 => Sum.elim (fun v4 => lt (r13partner_L2 peer t.asks) fun v9 => Sum.elim (fun v10 => false) (fun v11 => v11) v9) (fun v5 => v5) v3
theorem r13partner_ok (t : Table) (peer : Int) (r : Bool) (h : r13partner t peer = r) : PCalls Tryz.prog 66 [encTable t, I peer] (B r) := by
 unfold r13partner at h
 refine xe 37 Tryz.func66 ?_
 refine xsr ?_
 refine xa ?_
 refine xp ?_
 refine xq ?_
 refine vc_seq ?_
 refine vc_seq ?_
 refine xk [] [(1, .d (I peer)), (2, .d (.ptr [.list 4 (t.uses.map encUse), .list 5 (t.grants.map encGrant), .list 3 (t.asks.map encAsk)]))] .nil (xh1 ⟨.z (.own' rfl (.cons .d (.cons .d (.cons .d .nil)))) .refl, trivial⟩) ?_
 refine xr ?_
 refine xp ?_
 refine xq ?_
 obtain ⟨v3, hv3, hLv3⟩ := bindT h
 refine vc_mid2 v3 (fun v4 => [(1, .d (I peer)), (2, .d (.ptr [.list 4 (t.uses.map encUse), .list 5 (t.grants.map encGrant), .list 3 (t.asks.map encAsk)]))]) (fun v4 => []) ?_ ?_
 ·refine vc_block ?_
  refine vc_loop ?_
  refine xK [] [(1, .d (I peer)), (2, .d (.ptr [.list 4 (t.uses.map encUse), .list 5 (t.grants.map encGrant), .list 3 (t.asks.map encAsk)])), (5, .d (I 0))] .nil (xh3 trivial) ?_
  refine vcl_lenS 2 rfl (.ptr 0 rfl .here) (fun hlen => ?_)
  replace hlen := len_map hlen
  refine vcl_rec t.uses (fun (pre l : List Use) (s : Unit) => r13partner_L1 peer l) v3 (fun pre s => envOf [(1, .d (I peer)), (2, .d (.ptr [.list 4 (t.uses.map encUse), .list 5 (t.grants.map encGrant), .list 3 (t.asks.map encAsk)])), (5, .d (I (pre.length : Int)))]) (fun pre s => []) ?step1 ?done1 () hv3
  case step1 =>
   rintro pre x2 l _ hpre hlt h ih
   have hprex2 := hpre
   replace h : r13partner_L1 peer (x2 :: l) = v3 := h
   show VCL _ _ _ _ _ (envOf _) []
   obtain ⟨i1, hi⟩ : ∃ i : Int, i = (pre.length : Int) := ⟨_, rfl⟩
   have hix2 := hi
   rw [← hi]
   rw [r13partner_L1] at h
   refine vcl_unroll ?_
   refine vc_seq ?_
   refine xsr ?_
   iterate 3 refine xp ?_
   refine xl ?_
   refine xp ?_
   refine xq ?_
   refine vc_cond rfl (fun _ => ?_) (fun hf => absurd hf (by simp; omega))
   refine vc_skip ?_
   refine vc_seq ?_
   refine vc_block ?_
   refine xsr ?_
   iterate 3 refine xp ?_
   refine ri rfl rfl rfl rfl rfl rfl rfl (by omega) (by rw [hix2]; exact idxp hprex2) ?_
   iterate 4 refine xp ?_
   refine xq ?_
   cases c6 : (x2.peer == peer) with
   | true =>
    have h := cT c6 h
    refine vc_condT rfl ?_
    refine xsr ?_
    refine xp ?_
    refine xq ?_
    cases h
    have h := sumR hLv3
    refine vc_ret ⟨.inr rfl, [B true], (.cons rfl ⟨_, .d, .refl⟩ .nil), ?_⟩
    first | (rw [← h]; done) | (rw [← h]; rfl) | (rw [← h]; simp)
   | false =>
    have h := cF c6 h
    refine vc_condF rfl ?_
    refine vc_skip ?_
    refine xr ?_
    iterate 3 refine xp ?_
    refine xq ?_
    exact xv [] (ih () h) .nil (xh2 ⟨.e rfl (cntI hi hlt hlen), trivial⟩)
  case done1 =>
   rintro _ h
   replace h : r13partner_L1 peer [] = v3 := h
   rw [r13partner_L1] at h
   show VCL _ _ _ _ _ (envOf _) []
   refine vcl_unroll ?_
   refine vc_seq ?_
   refine xsr ?_
   iterate 3 refine xp ?_
   refine xl ?_
   refine xp ?_
   refine xq ?_
   refine vc_cond rfl (fun ht => absurd ht (by simp; try omega)) (fun _ => ?_)
   refine vc_exit ?_
   cases h
   exact xm [] .nil (xh2 trivial)
 ·rintro v4 rfl
  have h := sumL hLv3
  refine vc_seq ?_
  refine xsr ?_
  refine xp ?_
  refine xq ?_
  obtain ⟨v9, hv9, hLv9⟩ := bindT h
  refine vc_mid2 v9 (fun v10 => []) (fun v10 => []) ?_ ?_
  ·refine vc_block ?_
   refine vc_loop ?_
   refine xK [] [(1, .d (I peer)), (2, .d (.ptr [.list 4 (t.uses.map encUse), .list 5 (t.grants.map encGrant), .list 3 (t.asks.map encAsk)])), (6, .d (I 0))] .nil (xh3 trivial) ?_
   refine vcl_lenS 2 rfl (.ptr 2 rfl .here) (fun hlen => ?_)
   replace hlen := len_map hlen
   refine vcl_rec t.asks (fun (pre l : List Ask) (s : Unit) => r13partner_L2 peer l) v9 (fun pre s => envOf [(1, .d (I peer)), (2, .d (.ptr [.list 4 (t.uses.map encUse), .list 5 (t.grants.map encGrant), .list 3 (t.asks.map encAsk)])), (6, .d (I (pre.length : Int)))]) (fun pre s => []) ?step2 ?done2 () hv9
   case step2 =>
    rintro pre x8 l _ hpre hlt h ih
    have hprex8 := hpre
    replace h : r13partner_L2 peer (x8 :: l) = v9 := h
    show VCL _ _ _ _ _ (envOf _) []
    obtain ⟨i7, hi⟩ : ∃ i : Int, i = (pre.length : Int) := ⟨_, rfl⟩
    have hix8 := hi
    rw [← hi]
    rw [r13partner_L2] at h
    refine vcl_unroll ?_
    refine vc_seq ?_
    refine xsr ?_
    iterate 3 refine xp ?_
    refine xl ?_
    refine xp ?_
    refine xq ?_
    refine vc_cond rfl (fun _ => ?_) (fun hf => absurd hf (by simp; omega))
    refine vc_skip ?_
    refine vc_seq ?_
    refine vc_block ?_
    refine xsr ?_
    iterate 3 refine xp ?_
    refine ri rfl rfl rfl rfl rfl rfl rfl (by omega) (by rw [hix8]; exact idxp hprex8) ?_
    iterate 4 refine xp ?_
    refine xq ?_
    cases c12 : (x8.peer == peer) with
    | true =>
     have h := cT c12 h
     refine vc_condT rfl ?_
     refine xsr ?_
     refine xp ?_
     refine xq ?_
     cases h
     have h := sumR hLv9
     refine vc_ret ⟨.inr rfl, [B true], (.cons rfl ⟨_, .d, .refl⟩ .nil), ?_⟩
     first | (rw [← h]; done) | (rw [← h]; rfl) | (rw [← h]; simp)
    | false =>
     have h := cF c12 h
     refine vc_condF rfl ?_
     refine vc_skip ?_
     refine xr ?_
     iterate 3 refine xp ?_
     refine xq ?_
     exact xv [] (ih () h) .nil (xh2 ⟨.e rfl (cntI hi hlt hlen), trivial⟩)
   case done2 =>
    rintro _ h
    replace h : r13partner_L2 peer [] = v9 := h
    rw [r13partner_L2] at h
    show VCL _ _ _ _ _ (envOf _) []
    refine vcl_unroll ?_
    refine vc_seq ?_
    refine xsr ?_
    iterate 3 refine xp ?_
    refine xl ?_
    refine xp ?_
    refine xq ?_
    refine vc_cond rfl (fun ht => absurd ht (by simp; try omega)) (fun _ => ?_)
    refine vc_exit ?_
    cases h
    exact xm [] .nil trivial
  ·rintro v10 rfl
   have h := sumL hLv9
   refine xsr ?_
   refine xp ?_
   refine xq ?_
   refine vc_ret ⟨.inr rfl, [B false], (.cons rfl ⟨_, .d, .refl⟩ .nil), ?_⟩
   first | (rw [← h]; done) | (rw [← h]; rfl) | (rw [← h]; simp)
def r13Neighbours_L1 (a0 : Layout) (me : Int) (near : (List Near)) (frame : Int) : List Near → Int → Option (Sum (Unit) (Bool))
 | [], i1 => some (.inl ())
 | x2 :: l, i1 => cond ((decide (x2.src < 0)) || ((decide (x2.src ≥ a0.nodes)) || ((x2.src == me) || ((decide (x2.frame < 0)) || (decide (x2.frame > frame)))))) (some (.inr false)) (Option.bind (cond (decide (i1 > 0)) (Option.bind (elt near (IntKind.i64.wrap (i1 - 1))) fun v13 => some (decide (v13.src ≥ x2.src))) (some false)) fun v11 => cond v11 (some (.inr false)) (r13Neighbours_L1 a0 me near frame l (i1 + 1)))
def r13Neighbours (a0 : Layout) (me : Int) (near : (List Near)) (frame : Int) : Option (Bool) := Option.bind (r13Neighbours_L1 a0 me near frame near 0) fun v3 => Sum.elim (fun v4 => some true) (fun v5 => some v5) v3
theorem r13Neighbours_ok (a0 : Layout) (me : Int) (near : (List Near)) (frame : Int) (r : Bool) (h : r13Neighbours a0 me near frame = some r) : PCalls Tryz.prog 69 [encLayout a0, I me, .list 31 (near.map encNear), I frame] (B r) := by
 unfold r13Neighbours at h
 refine xe 66 Tryz.func69 ?_
 refine xsr ?_
 refine xa ?_
 refine xp ?_
 refine xq ?_
 refine vc_seq ?_
 refine vc_seq ?_
 refine xk [] [(1, .d (I me)), (2, .d (.list 31 (near.map encNear))), (3, .d (I frame)), (4, .d (.ptr [I a0.nodes, I a0.data]))] .nil (xh3 ⟨.z (.own' rfl (.cons .d (.cons .d .nil))) .refl, trivial⟩) ?_
 refine xr ?_
 refine xp ?_
 refine xq ?_
 obtain ⟨v3, hv3, hLv3⟩ := bindO h
 refine vc_mid2 v3 (fun v4 => []) (fun v4 => []) ?_ ?_
 ·refine vc_block ?_
  refine vc_loop ?_
  refine xK [] [(1, .d (I me)), (2, .d (.list 31 (near.map encNear))), (3, .d (I frame)), (4, .d (.ptr [I a0.nodes, I a0.data])), (9, .d (I 0))] .nil (xh5 trivial) ?_
  refine vcl_len 2 rfl (fun hlen => ?_)
  replace hlen := len_map hlen
  refine vcl_rec near (fun (pre l : List Near) (s : Unit) => r13Neighbours_L1 a0 me near frame l (pre.length : Int)) (some v3) (fun pre s => envOf [(1, .d (I me)), (2, .d (.list 31 (near.map encNear))), (3, .d (I frame)), (4, .d (.ptr [I a0.nodes, I a0.data])), (9, .d (I (pre.length : Int)))]) (fun pre s => []) ?step1 ?done1 () hv3
  case step1 =>
   rintro pre x2 l _ hpre hlt h ih
   have hprex2 := hpre
   replace h : r13Neighbours_L1 a0 me near frame (x2 :: l) (pre.length : Int) = some v3 := h
   show VCL _ _ _ _ _ (envOf _) []
   obtain ⟨i1, hi⟩ : ∃ i : Int, i = (pre.length : Int) := ⟨_, rfl⟩
   have hix2 := hi
   rw [← hi] at h ⊢
   rw [r13Neighbours_L1] at h
   refine vcl_unroll ?_
   refine vc_seq ?_
   refine xsr ?_
   iterate 2 refine xp ?_
   refine xl ?_
   refine xp ?_
   refine xq ?_
   refine vc_cond rfl (fun _ => ?_) (fun hf => absurd hf (by simp; omega))
   refine vc_skip ?_
   refine vc_seq ?_
   refine vc_block ?_
   refine xsr ?_
   iterate 2 refine xp ?_
   refine ri rfl rfl rfl rfl rfl rfl rfl (by omega) (by rw [hix2]; exact idxp hprex2) ?_
   iterate 4 refine xp ?_
   refine xq ?_
   refine vc_seq ?_
   refine vc_seq ?_
   refine vc_midQ [(1, .d (I me)), (2, .d (.list 31 (near.map encNear))), (3, .d (I frame)), (4, .d (.ptr [I a0.nodes, I a0.data])), (9, .d (I i1)), (10, .d (I x2.src)), (52, .d (B ((decide (x2.src < 0)) || ((decide (x2.src ≥ a0.nodes)) || ((x2.src == me) || ((decide (x2.frame < 0)) || (decide (x2.frame > frame))))))))] [] ?_ ?_
   ·refine xr ?_
    iterate 3 refine xp ?_
    cases c6 : decide (x2.src < 0) with
    | true =>
     iterate 4 refine xs ?_
     iterate 2 refine xp ?_
     iterate 3 refine xs ?_
     iterate 2 refine xp ?_
     iterate 6 refine xs ?_
     iterate 2 refine xp ?_
     iterate 7 refine xs ?_
     refine xp ?_
     refine xq ?_
     exact xm [] .nil (xh5 (xh2 trivial))
    | false =>
     iterate 6 refine xp ?_
     cases c7 : decide (x2.src ≥ a0.nodes) with
     | true =>
      iterate 3 refine xs ?_
      iterate 2 refine xp ?_
      iterate 6 refine xs ?_
      iterate 2 refine xp ?_
      iterate 7 refine xs ?_
      refine xp ?_
      refine xq ?_
      exact xm [] .nil (xh5 (xh2 trivial))
     | false =>
      iterate 5 refine xp ?_
      cases c8 : (x2.src == me) with
      | true =>
       iterate 6 refine xs ?_
       iterate 2 refine xp ?_
       iterate 7 refine xs ?_
       refine xp ?_
       refine xq ?_
       exact xm [] .nil (xh5 (xh2 trivial))
      | false =>
       iterate 2 refine xp ?_
       refine ri rfl rfl rfl rfl rfl rfl rfl (by omega) (by rw [hix2]; exact idxp hprex2) ?_
       iterate 5 refine xp ?_
       cases c9 : decide (x2.frame < 0) with
       | true =>
        iterate 7 refine xs ?_
        refine xp ?_
        refine xq ?_
        exact xm [] .nil (xh5 (xh2 trivial))
       | false =>
        iterate 2 refine xp ?_
        refine ri rfl rfl rfl rfl rfl rfl rfl (by omega) (by rw [hix2]; exact idxp hprex2) ?_
        iterate 5 refine xp ?_
        refine xq ?_
        exact xm [] .nil (xh5 (xh2 trivial))
   ·cases c10 : ((decide (x2.src < 0)) || ((decide (x2.src ≥ a0.nodes)) || ((x2.src == me) || ((decide (x2.frame < 0)) || (decide (x2.frame > frame)))))) with
    | true =>
     have h := cT c10 h
     refine vc_condT rfl ?_
     refine xsr ?_
     refine xp ?_
     refine xq ?_
     cases h
     have h := sumR hLv3
     replace h := Option.some.inj h
     refine vc_ret ⟨.inr rfl, [B false], (.cons rfl ⟨_, .d, .refl⟩ .nil), ?_⟩
     first | (rw [← h]; done) | (rw [← h]; rfl) | (rw [← h]; simp)
    | false =>
     have h := cF c10 h
     refine vc_condF rfl ?_
     refine vc_skip ?_
     refine vc_seq ?_
     obtain ⟨v11, hv11, h⟩ := bindO h
     refine vc_midQ [(1, .d (I me)), (2, .d (.list 31 (near.map encNear))), (3, .d (I frame)), (4, .d (.ptr [I a0.nodes, I a0.data])), (9, .d (I i1)), (65, .d (B v11))] [] ?_ ?_
     ·replace h := hv11; clear hv11
      refine xr ?_
      iterate 3 refine xp ?_
      cases c12 : decide (i1 > 0) with
      | true =>
       have h := cT c12 h
       iterate 3 refine xp ?_
       obtain ⟨v13, hv13, h⟩ := bindO h
       refine ri rfl rfl rfl rfl rfl rfl rfl (elt0 hv13) (eltm _ hv13) ?_
       iterate 6 refine xp ?_
       cases h
       refine xq ?_
       exact xm [] .nil (xh5 (xh1 trivial))
      | false =>
       have h := cF c12 h
       iterate 9 refine xs ?_
       refine xp ?_
       cases h
       refine xq ?_
       exact xm [] .nil (xh5 (xh1 trivial))
     ·cases c14 : v11 with
      | true =>
       have h := cT c14 h
       refine vc_condT rfl ?_
       refine xsr ?_
       refine xp ?_
       refine xq ?_
       cases h
       have h := sumR hLv3
       replace h := Option.some.inj h
       refine vc_ret ⟨.inr rfl, [B false], (.cons rfl ⟨_, .d, .refl⟩ .nil), ?_⟩
       first | (rw [← h]; done) | (rw [← h]; rfl) | (rw [← h]; simp)
      | false =>
       have h := cF c14 h
       refine vc_condF rfl ?_
       refine vc_skip ?_
       refine xr ?_
       iterate 3 refine xp ?_
       refine xq ?_
       exact xv [] (ih () (by show r13Neighbours_L1 a0 me near frame _ (((pre ++ [x2]).length : Nat) : Int) = _; rw [cnt1, ← hi]; exact h)) .nil (xh3 (xh1 ⟨.e rfl (cntI hi hlt hlen), trivial⟩))
  case done1 =>
   rintro _ h
   replace h : r13Neighbours_L1 a0 me near frame [] (near.length : Int) = some v3 := h
   rw [r13Neighbours_L1] at h
   show VCL _ _ _ _ _ (envOf _) []
   refine vcl_unroll ?_
   refine vc_seq ?_
   refine xsr ?_
   iterate 2 refine xp ?_
   refine xl ?_
   refine xp ?_
   refine xq ?_
   refine vc_cond rfl (fun ht => absurd ht (by simp; try omega)) (fun _ => ?_)
   refine vc_exit ?_
   cases h
   exact xm [] .nil trivial
 ·rintro v4 rfl
  have h := sumL hLv3
  refine xsr ?_
  refine xp ?_
  refine xq ?_
  replace h := Option.some.inj h
  refine vc_ret ⟨.inr rfl, [B true], (.cons rfl ⟨_, .d, .refl⟩ .nil), ?_⟩
  first | (rw [← h]; done) | (rw [← h]; rfl) | (rw [← h]; simp)
def r12Few (t : Table) : Bool := ((decide ((t.uses.length : Int) ≤ 70)) && ((decide ((t.grants.length : Int) ≤ 70)) && (decide ((t.asks.length : Int) ≤ 70))))
theorem r12Few_ok (t : Table) (r : Bool) (h : r12Few t = r) : PCalls Tryz.prog 34 [encTable t] (B r) := by
 unfold r12Few at h
 refine xe 19 Tryz.func34 ?_
 refine xsr ?_
 refine xa ?_
 refine xp ?_
 refine xq ?_
 refine vc_seq ?_
 refine xk [] [(1, .d (.ptr [.list 4 (t.uses.map encUse), .list 5 (t.grants.map encGrant), .list 3 (t.asks.map encAsk)]))] .nil ⟨.z (.own' rfl (.cons .d (.cons .d (.cons .d .nil)))) .refl, trivial⟩ ?_
 refine vc_midQ [(2, .d (B ((decide ((t.uses.length : Int) ≤ 70)) && ((decide ((t.grants.length : Int) ≤ 70)) && (decide ((t.asks.length : Int) ≤ 70))))))] [] ?_ ?_
 ·refine xr ?_
  iterate 2 refine xp ?_
  refine xl ?_
  iterate 2 refine xp ?_
  cases c1 : decide ((t.uses.length : Int) ≤ 70) with
  | true =>
   iterate 2 refine xp ?_
   refine xl ?_
   iterate 3 refine xp ?_
   cases c2 : decide ((t.grants.length : Int) ≤ 70) with
   | true =>
    iterate 2 refine xp ?_
    refine xl ?_
    iterate 3 refine xp ?_
    refine xq ?_
    exact xm [] .nil (xh1 trivial)
   | false =>
    iterate 4 refine xs ?_
    iterate 2 refine xp ?_
    refine xq ?_
    exact xm [] .nil (xh1 trivial)
  | false =>
   iterate 4 refine xs ?_
   iterate 2 refine xp ?_
   iterate 4 refine xs ?_
   iterate 2 refine xp ?_
   refine xq ?_
   exact xm [] .nil (xh1 trivial)
 ·refine vc_ret ⟨.inr rfl, [B ((decide ((t.uses.length : Int) ≤ 70)) && ((decide ((t.grants.length : Int) ≤ 70)) && (decide ((t.asks.length : Int) ≤ 70))))], (.cons rfl ⟨_, .d, .refl⟩ .nil), ?_⟩
  first | (rw [← h]; done) | (rw [← h]; rfl) | (rw [← h]; simp)
def r13Few_L1 (near : (List Near)) : Nat → Int → Option (Sum (Int) (Bool))
 | 0, p1 => none
 | k + 1, p1 => cond ((decide (p1 < (near.length : Int))) && (decide (p1 < 70))) (Option.bind (elt near p1) fun v7 => cond ((decide ((v7.t.uses.length : Int) > 40)) || ((decide ((v7.t.grants.length : Int) > 40)) || (decide ((v7.t.asks.length : Int) > 40)))) (some (.inr false)) (r13Few_L1 near k (IntKind.i64.wrap (p1 + 1)))) (some (.inl p1))
def r13Few (fuel : Nat) (near : (List Near)) : Option (Bool) := Option.bind (r13Few_L1 near fuel 0) fun v2 => Sum.elim (fun v3 => some (decide ((near.length : Int) ≤ 70))) (fun v4 => some v4) v2
theorem r13Few_ok (fuel : Nat) (near : (List Near)) (r : Bool) (h : r13Few fuel near = some r) : PCalls Tryz.prog 33 [.list 31 (near.map encNear)] (B r) := by
 unfold r13Few at h
 refine xe 39 Tryz.func33 ?_
 refine xsr ?_
 refine xp ?_
 refine xq ?_
 refine vc_seq ?_
 refine xsr ?_
 refine xp ?_
 refine xq ?_
 obtain ⟨v2, hv2, hLv2⟩ := bindO h
 refine vc_mid2 v2 (fun v3 => [(0, .d (.list 31 (near.map encNear)))]) (fun v3 => []) ?_ ?_
 ·refine vc_block ?_
  refine vc_loop ?_
  refine xK [] [(0, .d (.list 31 (near.map encNear))), (3, .d (I 0))] .nil (xh2 trivial) ?_
  refine vcl_fuel (fun (k : Nat) (s : Int) => r13Few_L1 near k s) v2 (fun s => envOf [(0, .d (.list 31 (near.map encNear))), (3, .d (I s))]) (fun s => []) (fun _ => rfl) ?step1 fuel 0 hv2
  case step1 =>
   rintro k p1 h ih
   replace h : r13Few_L1 near (k + 1) p1 = some v2 := h
   rw [r13Few_L1] at h
   show VCL _ _ _ _ _ (envOf _) []
   refine vcl_unroll ?_
   refine vc_seq ?_
   refine vc_seq ?_
   refine vc_midQ [(0, .d (.list 31 (near.map encNear))), (3, .d (I p1)), (12, .d (B ((decide (p1 < (near.length : Int))) && (decide (p1 < 70)))))] [] ?_ ?_
   ·refine xr ?_
    iterate 2 refine xp ?_
    refine xl ?_
    iterate 2 refine xp ?_
    cases c5 : decide (p1 < (near.length : Int)) with
    | true =>
     iterate 3 refine xp ?_
     refine xq ?_
     exact xm [] .nil (xh3 trivial)
    | false =>
     iterate 2 refine xs ?_
     refine xp ?_
     refine xq ?_
     exact xm [] .nil (xh3 trivial)
   ·cases c6 : ((decide (p1 < (near.length : Int))) && (decide (p1 < 70))) with
    | true =>
     have h := cT c6 h
     refine vc_condT rfl ?_
     refine vc_skip ?_
     refine vc_seq ?_
     refine vc_block ?_
     refine xsr ?_
     iterate 2 refine xp ?_
     obtain ⟨v7, hv7, h⟩ := bindO h
     refine ri rfl rfl rfl rfl rfl rfl rfl (elt0 hv7) (eltm _ hv7) ?_
     iterate 2 refine xp ?_
     refine xa ?_
     refine xw ?_
     refine xq ?_
     refine vc_seq ?_
     refine xk [] [(0, .d (.list 31 (near.map encNear))), (3, .d (I p1)), (4, .d (.ptr [I v7.src, v7.r.c2, v7.r.c3, v7.r.c4, v7.r.c5, v7.r.c6, v7.r.c7, v7.r.c8, v7.r.c9, v7.r.c10, v7.r.c11, .list 4 (v7.t.uses.map encUse), .list 5 (v7.t.grants.map encGrant), .list 3 (v7.t.asks.map encAsk), v7.r.c15, v7.r.c16, v7.r.c17, v7.r.c18, v7.r.c19, v7.r.c20, v7.r.c21, v7.r.c22, v7.r.c23, v7.r.c24, v7.r.c25, v7.r.c26, v7.r.c27, v7.r.c28, v7.r.c29, v7.r.c30]))] .nil (xh2 ⟨.z (.own' rfl (.cons .d (.cons .d (.cons .d (.cons .d (.cons .d (.cons .d (.cons .d (.cons .d (.cons .d (.cons .d (.cons .d (.cons .d (.cons .d (.cons .d (.cons .d (.cons .d (.cons .d (.cons .d (.cons .d (.cons .d (.cons .d (.cons .d (.cons .d (.cons .d (.cons .d (.cons .d (.cons .d (.cons .d (.cons .d (.cons .d .nil))))))))))))))))))))))))))))))) .refl, trivial⟩) ?_
     refine vc_midQ [(0, .d (.list 31 (near.map encNear))), (3, .d (I p1)), (35, .d (B ((decide ((v7.t.uses.length : Int) > 40)) || ((decide ((v7.t.grants.length : Int) > 40)) || (decide ((v7.t.asks.length : Int) > 40))))))] [] ?_ ?_
     ·refine xr ?_
      iterate 2 refine xp ?_
      refine xl ?_
      iterate 2 refine xp ?_
      cases c8 : decide ((v7.t.uses.length : Int) > 40) with
      | true =>
       iterate 4 refine xs ?_
       iterate 2 refine xp ?_
       iterate 4 refine xs ?_
       refine xp ?_
       refine xq ?_
       exact xm [] .nil (xh3 trivial)
      | false =>
       iterate 2 refine xp ?_
       refine xl ?_
       iterate 3 refine xp ?_
       cases c9 : decide ((v7.t.grants.length : Int) > 40) with
       | true =>
        iterate 4 refine xs ?_
        refine xp ?_
        refine xq ?_
        exact xm [] .nil (xh3 trivial)
       | false =>
        iterate 2 refine xp ?_
        refine xl ?_
        iterate 2 refine xp ?_
        refine xq ?_
        exact xm [] .nil (xh3 trivial)
     ·cases c10 : ((decide ((v7.t.uses.length : Int) > 40)) || ((decide ((v7.t.grants.length : Int) > 40)) || (decide ((v7.t.asks.length : Int) > 40)))) with
      | true =>
       have h := cT c10 h
       refine vc_condT rfl ?_
       refine xsr ?_
       refine xp ?_
       refine xq ?_
       cases h
       have h := sumR hLv2
       replace h := Option.some.inj h
       refine vc_ret ⟨.inr rfl, [B false], (.cons rfl ⟨_, .d, .refl⟩ .nil), ?_⟩
       first | (rw [← h]; done) | (rw [← h]; rfl) | (rw [← h]; simp)
      | false =>
       have h := cF c10 h
       refine vc_condF rfl ?_
       refine vc_skip ?_
       refine xr ?_
       iterate 3 refine xp ?_
       refine xq ?_
       exact xv [] (ih (IntKind.i64.wrap (p1 + 1)) h) .nil (xh2 trivial)
    | false =>
     have h := cF c6 h
     refine vc_condF rfl ?_
     refine vc_exit ?_
     cases h
     exact xm [] .nil (xh1 trivial)
 ·rintro v3 rfl
  have h := sumL hLv2
  refine xsr ?_
  refine xp ?_
  refine xl ?_
  iterate 2 refine xp ?_
  refine xq ?_
  replace h := Option.some.inj h
  refine vc_ret ⟨.inr rfl, [B (decide ((near.length : Int) ≤ 70))], (.cons rfl ⟨_, .d, .refl⟩ .nil), ?_⟩
  first | (rw [← h]; done) | (rw [← h]; rfl) | (rw [← h]; simp)
def r12unasked_L1 (slot : Int) : List Ask → (List Ask) → Option (List Ask)
 | [], p1 => some p1
 | x3 :: l, p1 => Option.bind (cond (x3.cell.slot != slot) (cond (decide (p1.length + 1 ≤ 4294967296)) (some (p1 ++ [x3])) none) (some p1)) fun v5 => r12unasked_L1 slot l v5
def r12unasked (a0 : (List Ask)) (slot : Int) : Option ((List Ask)) := Option.bind (r12unasked_L1 slot a0 []) fun v4 => some v4
theorem r12unasked_ok (a0 : (List Ask)) (slot : Int) (r : (List Ask)) (h : r12unasked a0 slot = some r) : PCalls Tryz.prog 111 [.list 3 (a0.map encAsk), I slot] (.list 3 (r.map encAsk)) := by
 unfold r12unasked at h
 refine xe 29 Tryz.func111 ?_
 refine xsr ?_
 refine xp ?_
 refine xq ?_
 refine xsr ?_
 refine xp ?_
 refine xq ?_
 refine vc_seq ?_
 refine xsr ?_
 refine xp ?_
 refine xq ?_
 refine VC.weak (weak_ownNil 5 63 3 rfl rfl) ?_
 obtain ⟨v4, hv4, hLv4⟩ := bindO h
 refine vc_midQ [(5, .osl 0 v4.length)] [.arr 63 3 (v4.map encAsk)] ?_ ?_
 ·refine vc_block ?_
  refine vc_loop ?_
  refine xK [0] [(0, .d (.list 3 (a0.map encAsk))), (1, .d (I slot)), (5, .osl 0 0), (6, .d (I 0))] (σ' := [.arr 63 3 ([].map encAsk)]) (.cons rfl (.arr (by first | rfl | (simp <;> rfl))) .nil) (xh3 (xh1 trivial)) ?_
  refine vcl_len 0 rfl (fun hlen => ?_)
  replace hlen := len_map hlen
  refine vcl_rec a0 (fun (pre l : List Ask) (s : List Ask) => r12unasked_L1 slot l s) (some v4) (fun pre s => envOf [(0, .d (.list 3 (a0.map encAsk))), (1, .d (I slot)), (5, .osl 0 s.length), (6, .d (I (pre.length : Int)))]) (fun pre s => [.arr 63 3 (s.map encAsk)]) ?step1 ?done1 [] hv4
  case step1 =>
   rintro pre x3 l p1 hpre hlt h ih
   have hprex3 := hpre
   replace h : r12unasked_L1 slot (x3 :: l) p1 = some v4 := h
   show VCL _ _ _ _ _ (envOf _) (_ :: _)
   obtain ⟨i2, hi⟩ : ∃ i : Int, i = (pre.length : Int) := ⟨_, rfl⟩
   have hix3 := hi
   rw [← hi]
   rw [r12unasked_L1] at h
   refine vcl_unroll ?_
   refine vc_seq ?_
   refine xsr ?_
   iterate 2 refine xp ?_
   refine xl ?_
   refine xp ?_
   refine xq ?_
   refine vc_cond rfl (fun _ => ?_) (fun hf => absurd hf (by simp; omega))
   refine vc_skip ?_
   refine vc_seq ?_
   refine vc_block ?_
   refine xsr ?_
   iterate 2 refine xp ?_
   refine ri rfl rfl rfl rfl rfl rfl rfl (by omega) (by rw [hix3]; exact idxp hprex3) ?_
   iterate 5 refine xp ?_
   refine xq ?_
   obtain ⟨v5, hv5, h⟩ := bindO h
   refine vc_midQ [(0, .d (.list 3 (a0.map encAsk))), (1, .d (I slot)), (5, .osl 0 v5.length), (6, .d (I i2))] [.arr 63 3 (v5.map encAsk)] ?_ ?_
   ·replace h := hv5; clear hv5
    cases c6 : (x3.cell.slot != slot) with
    | true =>
     have h := cT c6 h
     refine vc_condT rfl ?_
     refine xr ?_
     iterate 3 refine xp ?_
     refine ri rfl rfl rfl rfl rfl rfl rfl (by omega) (by rw [hix3]; exact idxp hprex3) ?_
     refine xp ?_
     refine xb ?_
     obtain ⟨g7, h⟩ := gd h; replace g7 := dT g7
     refine rap rfl rfl rfl rfl rfl rfl rfl rfl .list rfl rfl rfl rfl (by simp) (by simp; omega) (by simp; omega) ?_
     refine xp ?_
     refine xq ?_
     cases h
     exact xm [0] ((.cons rfl (.arr (by first | rfl | (simp <;> rfl))) .nil)) (xh2 ⟨.h (oslE rfl (by first | rfl | (simp <;> rfl))) rfl, (xh1 trivial)⟩)
    | false =>
     have h := cF c6 h
     refine vc_condF rfl ?_
     refine vc_skip ?_
     cases h
     exact xm [0] ((.cons rfl (.arr (by first | rfl | (simp <;> rfl))) .nil)) (xh2 ⟨.h (oslE rfl (by first | rfl | (simp <;> rfl))) rfl, (xh1 trivial)⟩)
   ·refine xr ?_
    iterate 3 refine xp ?_
    refine xq ?_
    exact xv [0] (ih v5 h) (.cons rfl (.arr (by first | rfl | (simp <;> rfl))) .nil) (xh3 ⟨.e rfl (cntI hi hlt hlen), trivial⟩)
  case done1 =>
   rintro p1 h
   replace h : r12unasked_L1 slot [] p1 = some v4 := h
   rw [r12unasked_L1] at h
   show VCL _ _ _ _ _ (envOf _) (_ :: _)
   refine vcl_unroll ?_
   refine vc_seq ?_
   refine xsr ?_
   iterate 2 refine xp ?_
   refine xl ?_
   refine xp ?_
   refine xq ?_
   refine vc_cond rfl (fun ht => absurd ht (by simp; try omega)) (fun _ => ?_)
   refine vc_exit ?_
   cases h
   exact xm [0] (.cons rfl (.arr (by first | rfl | (simp <;> rfl))) .nil) (xh1 trivial)
 ·have h := hLv4
  refine vc_seq ?_
  refine xk [] [(5, .d (.list 3 (v4.map encAsk)))] .nil ⟨.z (.osl rfl (by simp)) .refl, trivial⟩ ?_
  refine xr ?_
  iterate 2 refine xp ?_
  refine xq ?_
  replace h := Option.some.inj h
  refine vc_ret ⟨.inr rfl, [.list 3 (v4.map encAsk)], (.cons rfl ⟨_, .d, .refl⟩ .nil), ?_⟩
  first | (rw [← h]; done) | (rw [← h]; rfl) | (rw [← h]; simp)
def told (a0 : Int) (t : Table) (frame : Int) : (List Near) := [⟨frame, a0, ⟨t.uses, t.grants, t.asks⟩, ⟨I 0, I 0, I 0, I 0, I 0, I 0, I 0, I 0, I 0, I 0, .lit (.slice none 0 0), B false, .lit (.slice none 0 0), .lit (.slice none 0 0), .lit (.slice none 0 0), I 0, I 0, .lit (.int .u64 0), I 0, I 0, I 0, I 0, I 0, .lit (.slice none 0 0), .lit (.slice none 0 0), B false⟩⟩]
theorem told_ok (a0 : Int) (t : Table) (frame : Int) (r : (List Near)) (h : told a0 t frame = r) : PCalls Tryz.prog 32 [I a0, encTable t, I frame] (.list 31 (r.map encNear)) := by
 unfold told at h
 refine xe 18 Tryz.func32 ?_
 refine xsr ?_
 refine xa ?_
 refine xp ?_
 refine xq ?_
 refine vc_seq ?_
 refine xk [] [(0, .d (I a0)), (2, .d (I frame)), (4, .d (.ptr [.list 4 (t.uses.map encUse), .list 5 (t.grants.map encGrant), .list 3 (t.asks.map encAsk)]))] .nil (xh2 ⟨.z (.own' rfl (.cons .d (.cons .d (.cons .d .nil)))) .refl, trivial⟩) ?_
 refine xr ?_
 iterate 10 refine xp ?_
 refine xb ?_
 refine xp ?_
 refine xq ?_
 refine vc_ret ⟨.inr rfl, [.list 31 ([⟨frame, a0, ⟨t.uses, t.grants, t.asks⟩, ⟨I 0, I 0, I 0, I 0, I 0, I 0, I 0, I 0, I 0, I 0, .lit (.slice none 0 0), B false, .lit (.slice none 0 0), .lit (.slice none 0 0), .lit (.slice none 0 0), I 0, I 0, .lit (.int .u64 0), I 0, I 0, I 0, I 0, I 0, .lit (.slice none 0 0), .lit (.slice none 0 0), B false⟩⟩].map encNear)], (.cons rfl ⟨_, .d, .refl⟩ .nil), ?_⟩
 first | (rw [← h]; done) | (rw [← h]; rfl) | (rw [← h]; simp)
def r12Same_L1 (b : Table) : List Use → Int → Option (Sum (Unit) (Bool))
 | [], i4 => some (.inl ())
 | x5 :: l, i4 => Option.bind (elt b.uses i4) fun v9 => cond (((x5.cell.slot == v9.cell.slot) && ((x5.cell.offset == v9.cell.offset) && true)) && ((x5.peer == v9.peer) && ((x5.stamp == v9.stamp) && true))) (r12Same_L1 b l (i4 + 1)) (some (.inr false))
def r12Same_L2 (b : Table) : List Grant → Int → Option (Sum (Unit) (Bool))
 | [], i11 => some (.inl ())
 | x12 :: l, i11 => Option.bind (elt b.grants i11) fun v16 => cond (((x12.cell.slot == v16.cell.slot) && ((x12.cell.offset == v16.cell.offset) && true)) && ((x12.peer == v16.peer) && ((x12.stamp == v16.stamp) && ((x12.til == v16.til) && true)))) (r12Same_L2 b l (i11 + 1)) (some (.inr false))
def r12Same_L3 (b : Table) : List Ask → Int → Option (Sum (Unit) (Bool))
 | [], i18 => some (.inl ())
 | x19 :: l, i18 => Option.bind (elt b.asks i18) fun v23 => cond (((x19.cell.slot == v23.cell.slot) && ((x19.cell.offset == v23.cell.offset) && true)) && ((x19.peer == v23.peer) && true)) (r12Same_L3 b l (i18 + 1)) (some (.inr false))
def r12Same (a : Table) (b : Table) : Option (Bool) := cond (((a.uses.length : Int) != (b.uses.length : Int)) || (((a.grants.length : Int) != (b.grants.length : Int)) || ((a.asks.length : Int) != (b.asks.length : Int)))) (some false) (Option.bind (r12Same_L1 b a.uses 0) fun v6 => Sum.elim (fun v7 => Option.bind (r12Same_L2 b a.grants 0) fun v13 => Sum.elim (fun v14 => Option.bind (r12Same_L3 b a.asks 0) fun v20 => Sum.elim (fun v21 => some true) (fun v22 => some v22) v20) (fun v15 => some v15) v13) (fun v8 => some v8) v6)
theorem r12Same_ok (a : Table) (b : Table) (r : Bool) (h : r12Same a b = some r) : PCalls Tryz.prog 15 [encTable a, encTable b] (B r) := by
 unfold r12Same at h
 refine xe 87 Tryz.func15 ?_
 refine xsr ?_
 refine xa ?_
 refine xa ?_
 refine xp ?_
 refine xq ?_
 refine vc_seq ?_
 refine vc_seq ?_
 refine xk [] [(2, .d (.ptr [.list 4 (a.uses.map encUse), .list 5 (a.grants.map encGrant), .list 3 (a.asks.map encAsk)])), (3, .d (.ptr [.list 4 (b.uses.map encUse), .list 5 (b.grants.map encGrant), .list 3 (b.asks.map encAsk)]))] .nil ⟨.z (.own' rfl (.cons .d (.cons .d (.cons .d .nil)))) .refl, .z (.own' rfl (.cons .d (.cons .d (.cons .d .nil)))) .refl, trivial⟩ ?_
 refine vc_midQ [(2, .d (.ptr [.list 4 (a.uses.map encUse), .list 5 (a.grants.map encGrant), .list 3 (a.asks.map encAsk)])), (3, .d (.ptr [.list 4 (b.uses.map encUse), .list 5 (b.grants.map encGrant), .list 3 (b.asks.map encAsk)])), (32, .d (B (((a.uses.length : Int) != (b.uses.length : Int)) || (((a.grants.length : Int) != (b.grants.length : Int)) || ((a.asks.length : Int) != (b.asks.length : Int))))))] [] ?_ ?_
 ·refine xr ?_
  iterate 2 refine xp ?_
  refine xl ?_
  iterate 2 refine xp ?_
  refine xl ?_
  iterate 2 refine xp ?_
  cases c1 : ((a.uses.length : Int) != (b.uses.length : Int)) with
  | true =>
   iterate 7 refine xs ?_
   iterate 2 refine xp ?_
   iterate 7 refine xs ?_
   refine xp ?_
   refine xq ?_
   exact xm [] .nil (xh3 trivial)
  | false =>
   iterate 2 refine xp ?_
   refine xl ?_
   iterate 2 refine xp ?_
   refine xl ?_
   iterate 3 refine xp ?_
   cases c2 : ((a.grants.length : Int) != (b.grants.length : Int)) with
   | true =>
    iterate 7 refine xs ?_
    refine xp ?_
    refine xq ?_
    exact xm [] .nil (xh3 trivial)
   | false =>
    iterate 2 refine xp ?_
    refine xl ?_
    iterate 2 refine xp ?_
    refine xl ?_
    iterate 2 refine xp ?_
    refine xq ?_
    exact xm [] .nil (xh3 trivial)
 ·cases c3 : (((a.uses.length : Int) != (b.uses.length : Int)) || (((a.grants.length : Int) != (b.grants.length : Int)) || ((a.asks.length : Int) != (b.asks.length : Int)))) with
  | true =>
   have h := cT c3 h
   refine vc_condT rfl ?_
   refine xsr ?_
   refine xp ?_
   refine xq ?_
   replace h := Option.some.inj h
   refine vc_ret ⟨.inr rfl, [B false], (.cons rfl ⟨_, .d, .refl⟩ .nil), ?_⟩
   first | (rw [← h]; done) | (rw [← h]; rfl) | (rw [← h]; simp)
  | false =>
   have h := cF c3 h
   refine vc_condF rfl ?_
   refine vc_skip ?_
   refine vc_seq ?_
   refine xsr ?_
   refine xp ?_
   refine xq ?_
   obtain ⟨v6, hv6, hLv6⟩ := bindO h
   refine vc_mid2 v6 (fun v7 => [(2, .d (.ptr [.list 4 (a.uses.map encUse), .list 5 (a.grants.map encGrant), .list 3 (a.asks.map encAsk)])), (3, .d (.ptr [.list 4 (b.uses.map encUse), .list 5 (b.grants.map encGrant), .list 3 (b.asks.map encAsk)]))]) (fun v7 => []) ?_ ?_
   ·refine vc_block ?_
    refine vc_loop ?_
    refine xK [] [(2, .d (.ptr [.list 4 (a.uses.map encUse), .list 5 (a.grants.map encGrant), .list 3 (a.asks.map encAsk)])), (3, .d (.ptr [.list 4 (b.uses.map encUse), .list 5 (b.grants.map encGrant), .list 3 (b.asks.map encAsk)])), (5, .d (I 0))] .nil (xh3 trivial) ?_
    refine vcl_lenS 2 rfl (.ptr 0 rfl .here) (fun hlen => ?_)
    replace hlen := len_map hlen
    refine vcl_rec a.uses (fun (pre l : List Use) (s : Unit) => r12Same_L1 b l (pre.length : Int)) (some v6) (fun pre s => envOf [(2, .d (.ptr [.list 4 (a.uses.map encUse), .list 5 (a.grants.map encGrant), .list 3 (a.asks.map encAsk)])), (3, .d (.ptr [.list 4 (b.uses.map encUse), .list 5 (b.grants.map encGrant), .list 3 (b.asks.map encAsk)])), (5, .d (I (pre.length : Int)))]) (fun pre s => []) ?step1 ?done1 () hv6
    case step1 =>
     rintro pre x5 l _ hpre hlt h ih
     have hprex5 := hpre
     replace h : r12Same_L1 b (x5 :: l) (pre.length : Int) = some v6 := h
     show VCL _ _ _ _ _ (envOf _) []
     obtain ⟨i4, hi⟩ : ∃ i : Int, i = (pre.length : Int) := ⟨_, rfl⟩
     have hix5 := hi
     rw [← hi] at h ⊢
     rw [r12Same_L1] at h
     refine vcl_unroll ?_
     refine vc_seq ?_
     refine xsr ?_
     iterate 3 refine xp ?_
     refine xl ?_
     refine xp ?_
     refine xq ?_
     refine vc_cond rfl (fun _ => ?_) (fun hf => absurd hf (by simp; omega))
     refine vc_skip ?_
     refine vc_seq ?_
     refine vc_block ?_
     refine xsd ?_
     iterate 3 refine xp ?_
     refine ri rfl rfl rfl rfl rfl rfl rfl (by omega) (by rw [hix5]; exact idxp hprex5) ?_
     iterate 4 refine xp ?_
     obtain ⟨v9, hv9, h⟩ := bindO h
     refine ri rfl rfl rfl rfl rfl rfl rfl (elt0 hv9) (eltm _ hv9) ?_
     iterate 2 refine xp ?_
     refine xq ?_
     cases c10 : (((x5.cell.slot == v9.cell.slot) && ((x5.cell.offset == v9.cell.offset) && true)) && ((x5.peer == v9.peer) && ((x5.stamp == v9.stamp) && true))) with
     | true =>
      have h := cT c10 h
      refine vc_condF rfl ?_
      refine vc_skip ?_
      refine xr ?_
      iterate 3 refine xp ?_
      refine xq ?_
      exact xv [] (ih () (by show r12Same_L1 b _ (((pre ++ [x5]).length : Nat) : Int) = _; rw [cnt1, ← hi]; exact h)) .nil (xh2 ⟨.e rfl (cntI hi hlt hlen), trivial⟩)
     | false =>
      have h := cF c10 h
      refine vc_condT rfl ?_
      refine xsr ?_
      refine xp ?_
      refine xq ?_
      cases h
      have h := sumR hLv6
      replace h := Option.some.inj h
      refine vc_ret ⟨.inr rfl, [B false], (.cons rfl ⟨_, .d, .refl⟩ .nil), ?_⟩
      first | (rw [← h]; done) | (rw [← h]; rfl) | (rw [← h]; simp)
    case done1 =>
     rintro _ h
     replace h : r12Same_L1 b [] (a.uses.length : Int) = some v6 := h
     rw [r12Same_L1] at h
     show VCL _ _ _ _ _ (envOf _) []
     refine vcl_unroll ?_
     refine vc_seq ?_
     refine xsr ?_
     iterate 3 refine xp ?_
     refine xl ?_
     refine xp ?_
     refine xq ?_
     refine vc_cond rfl (fun ht => absurd ht (by simp; try omega)) (fun _ => ?_)
     refine vc_exit ?_
     cases h
     exact xm [] .nil (xh2 trivial)
   ·rintro v7 rfl
    have h := sumL hLv6
    refine vc_seq ?_
    refine xsr ?_
    refine xp ?_
    refine xq ?_
    obtain ⟨v13, hv13, hLv13⟩ := bindO h
    refine vc_mid2 v13 (fun v14 => [(2, .d (.ptr [.list 4 (a.uses.map encUse), .list 5 (a.grants.map encGrant), .list 3 (a.asks.map encAsk)])), (3, .d (.ptr [.list 4 (b.uses.map encUse), .list 5 (b.grants.map encGrant), .list 3 (b.asks.map encAsk)]))]) (fun v14 => []) ?_ ?_
    ·refine vc_block ?_
     refine vc_loop ?_
     refine xK [] [(2, .d (.ptr [.list 4 (a.uses.map encUse), .list 5 (a.grants.map encGrant), .list 3 (a.asks.map encAsk)])), (3, .d (.ptr [.list 4 (b.uses.map encUse), .list 5 (b.grants.map encGrant), .list 3 (b.asks.map encAsk)])), (6, .d (I 0))] .nil (xh3 trivial) ?_
     refine vcl_lenS 2 rfl (.ptr 1 rfl .here) (fun hlen => ?_)
     replace hlen := len_map hlen
     refine vcl_rec a.grants (fun (pre l : List Grant) (s : Unit) => r12Same_L2 b l (pre.length : Int)) (some v13) (fun pre s => envOf [(2, .d (.ptr [.list 4 (a.uses.map encUse), .list 5 (a.grants.map encGrant), .list 3 (a.asks.map encAsk)])), (3, .d (.ptr [.list 4 (b.uses.map encUse), .list 5 (b.grants.map encGrant), .list 3 (b.asks.map encAsk)])), (6, .d (I (pre.length : Int)))]) (fun pre s => []) ?step2 ?done2 () hv13
     case step2 =>
      rintro pre x12 l _ hpre hlt h ih
      have hprex12 := hpre
      replace h : r12Same_L2 b (x12 :: l) (pre.length : Int) = some v13 := h
      show VCL _ _ _ _ _ (envOf _) []
      obtain ⟨i11, hi⟩ : ∃ i : Int, i = (pre.length : Int) := ⟨_, rfl⟩
      have hix12 := hi
      rw [← hi] at h ⊢
      rw [r12Same_L2] at h
      refine vcl_unroll ?_
      refine vc_seq ?_
      refine xsr ?_
      iterate 3 refine xp ?_
      refine xl ?_
      refine xp ?_
      refine xq ?_
      refine vc_cond rfl (fun _ => ?_) (fun hf => absurd hf (by simp; omega))
      refine vc_skip ?_
      refine vc_seq ?_
      refine vc_block ?_
      refine xsd ?_
      iterate 3 refine xp ?_
      refine ri rfl rfl rfl rfl rfl rfl rfl (by omega) (by rw [hix12]; exact idxp hprex12) ?_
      iterate 4 refine xp ?_
      obtain ⟨v16, hv16, h⟩ := bindO h
      refine ri rfl rfl rfl rfl rfl rfl rfl (elt0 hv16) (eltm _ hv16) ?_
      iterate 2 refine xp ?_
      refine xq ?_
      cases c17 : (((x12.cell.slot == v16.cell.slot) && ((x12.cell.offset == v16.cell.offset) && true)) && ((x12.peer == v16.peer) && ((x12.stamp == v16.stamp) && ((x12.til == v16.til) && true)))) with
      | true =>
       have h := cT c17 h
       refine vc_condF rfl ?_
       refine vc_skip ?_
       refine xr ?_
       iterate 3 refine xp ?_
       refine xq ?_
       exact xv [] (ih () (by show r12Same_L2 b _ (((pre ++ [x12]).length : Nat) : Int) = _; rw [cnt1, ← hi]; exact h)) .nil (xh2 ⟨.e rfl (cntI hi hlt hlen), trivial⟩)
      | false =>
       have h := cF c17 h
       refine vc_condT rfl ?_
       refine xsr ?_
       refine xp ?_
       refine xq ?_
       cases h
       have h := sumR hLv13
       replace h := Option.some.inj h
       refine vc_ret ⟨.inr rfl, [B false], (.cons rfl ⟨_, .d, .refl⟩ .nil), ?_⟩
       first | (rw [← h]; done) | (rw [← h]; rfl) | (rw [← h]; simp)
     case done2 =>
      rintro _ h
      replace h : r12Same_L2 b [] (a.grants.length : Int) = some v13 := h
      rw [r12Same_L2] at h
      show VCL _ _ _ _ _ (envOf _) []
      refine vcl_unroll ?_
      refine vc_seq ?_
      refine xsr ?_
      iterate 3 refine xp ?_
      refine xl ?_
      refine xp ?_
      refine xq ?_
      refine vc_cond rfl (fun ht => absurd ht (by simp; try omega)) (fun _ => ?_)
      refine vc_exit ?_
      cases h
      exact xm [] .nil (xh2 trivial)
    ·rintro v14 rfl
     have h := sumL hLv13
     refine vc_seq ?_
     refine xsr ?_
     refine xp ?_
     refine xq ?_
     obtain ⟨v20, hv20, hLv20⟩ := bindO h
     refine vc_mid2 v20 (fun v21 => []) (fun v21 => []) ?_ ?_
     ·refine vc_block ?_
      refine vc_loop ?_
      refine xK [] [(2, .d (.ptr [.list 4 (a.uses.map encUse), .list 5 (a.grants.map encGrant), .list 3 (a.asks.map encAsk)])), (3, .d (.ptr [.list 4 (b.uses.map encUse), .list 5 (b.grants.map encGrant), .list 3 (b.asks.map encAsk)])), (7, .d (I 0))] .nil (xh3 trivial) ?_
      refine vcl_lenS 2 rfl (.ptr 2 rfl .here) (fun hlen => ?_)
      replace hlen := len_map hlen
      refine vcl_rec a.asks (fun (pre l : List Ask) (s : Unit) => r12Same_L3 b l (pre.length : Int)) (some v20) (fun pre s => envOf [(2, .d (.ptr [.list 4 (a.uses.map encUse), .list 5 (a.grants.map encGrant), .list 3 (a.asks.map encAsk)])), (3, .d (.ptr [.list 4 (b.uses.map encUse), .list 5 (b.grants.map encGrant), .list 3 (b.asks.map encAsk)])), (7, .d (I (pre.length : Int)))]) (fun pre s => []) ?step3 ?done3 () hv20
      case step3 =>
       rintro pre x19 l _ hpre hlt h ih
       have hprex19 := hpre
       replace h : r12Same_L3 b (x19 :: l) (pre.length : Int) = some v20 := h
       show VCL _ _ _ _ _ (envOf _) []
       obtain ⟨i18, hi⟩ : ∃ i : Int, i = (pre.length : Int) := ⟨_, rfl⟩
       have hix19 := hi
       rw [← hi] at h ⊢
       rw [r12Same_L3] at h
       refine vcl_unroll ?_
       refine vc_seq ?_
       refine xsr ?_
       iterate 3 refine xp ?_
       refine xl ?_
       refine xp ?_
       refine xq ?_
       refine vc_cond rfl (fun _ => ?_) (fun hf => absurd hf (by simp; omega))
       refine vc_skip ?_
       refine vc_seq ?_
       refine vc_block ?_
       refine xsd ?_
       iterate 3 refine xp ?_
       refine ri rfl rfl rfl rfl rfl rfl rfl (by omega) (by rw [hix19]; exact idxp hprex19) ?_
       iterate 4 refine xp ?_
       obtain ⟨v23, hv23, h⟩ := bindO h
       refine ri rfl rfl rfl rfl rfl rfl rfl (elt0 hv23) (eltm _ hv23) ?_
       iterate 2 refine xp ?_
       refine xq ?_
       cases c24 : (((x19.cell.slot == v23.cell.slot) && ((x19.cell.offset == v23.cell.offset) && true)) && ((x19.peer == v23.peer) && true)) with
       | true =>
        have h := cT c24 h
        refine vc_condF rfl ?_
        refine vc_skip ?_
        refine xr ?_
        iterate 3 refine xp ?_
        refine xq ?_
        exact xv [] (ih () (by show r12Same_L3 b _ (((pre ++ [x19]).length : Nat) : Int) = _; rw [cnt1, ← hi]; exact h)) .nil (xh2 ⟨.e rfl (cntI hi hlt hlen), trivial⟩)
       | false =>
        have h := cF c24 h
        refine vc_condT rfl ?_
        refine xsr ?_
        refine xp ?_
        refine xq ?_
        cases h
        have h := sumR hLv20
        replace h := Option.some.inj h
        refine vc_ret ⟨.inr rfl, [B false], (.cons rfl ⟨_, .d, .refl⟩ .nil), ?_⟩
        first | (rw [← h]; done) | (rw [← h]; rfl) | (rw [← h]; simp)
      case done3 =>
       rintro _ h
       replace h : r12Same_L3 b [] (a.asks.length : Int) = some v20 := h
       rw [r12Same_L3] at h
       show VCL _ _ _ _ _ (envOf _) []
       refine vcl_unroll ?_
       refine vc_seq ?_
       refine xsr ?_
       iterate 3 refine xp ?_
       refine xl ?_
       refine xp ?_
       refine xq ?_
       refine vc_cond rfl (fun ht => absurd ht (by simp; try omega)) (fun _ => ?_)
       refine vc_exit ?_
       cases h
       exact xm [] .nil trivial
     ·rintro v21 rfl
      have h := sumL hLv20
      refine xsr ?_
      refine xp ?_
      refine xq ?_
      replace h := Option.some.inj h
      refine vc_ret ⟨.inr rfl, [B true], (.cons rfl ⟨_, .d, .refl⟩ .nil), ?_⟩
      first | (rw [← h]; done) | (rw [← h]; rfl) | (rw [← h]; simp)
end Go.VM.Tryz
namespace Go.VM.Tryz
open Go.Proofs
def r12Valid_L1 (t : Table) (a1 : Layout) : List Use → Int → (List Int) → Option (Sum (List Int) (Bool))
 | [], i6, p5 => some (.inl p5)
 | x7 :: l, i6, p5 => Option.bind (cond (r12Use x7 a1) (cond (decide (i6 > 0)) (Option.bind (elt t.uses (IntKind.i64.wrap (i6 - 1))) fun v14 => some (decide (v14.cell.slot ≥ x7.cell.slot))) (some false)) (some true)) fun v11 => cond v11 (some (.inr false)) (cond (decide (0 ≤ x7.cell.slot ∧ x7.cell.slot < (p5.length : Int))) (Option.bind (elt p5 x7.cell.slot) fun v17 => cond (decide (0 ≤ x7.cell.slot ∧ x7.cell.slot < (p5.length : Int))) (Option.bind (elt p5 x7.cell.slot) fun v19 => r12Valid_L1 t a1 l (i6 + 1) (p5.set x7.cell.slot.toNat (IntKind.i64.wrap (v17 + 1)))) none) none)
def r12Valid_L2 (t : Table) (a1 : Layout) : List Grant → Int → (List Int) → Option (Sum (List Int) (Bool))
 | [], i21, p20 => some (.inl p20)
 | x22 :: l, i21, p20 => Option.bind (cond (r12Grant x22 a1) (cond (decide (i21 > 0)) (Option.bind (elt t.grants (IntKind.i64.wrap (i21 - 1))) fun v29 => some (decide (v29.cell.slot ≥ x22.cell.slot))) (some false)) (some true)) fun v26 => cond v26 (some (.inr false)) (cond (decide (0 ≤ x22.cell.slot ∧ x22.cell.slot < (p20.length : Int))) (Option.bind (elt p20 x22.cell.slot) fun v32 => cond (decide (0 ≤ x22.cell.slot ∧ x22.cell.slot < (p20.length : Int))) (Option.bind (elt p20 x22.cell.slot) fun v34 => r12Valid_L2 t a1 l (i21 + 1) (p20.set x22.cell.slot.toNat (IntKind.i64.wrap (v32 + 1)))) none) none)
def r12Valid_L3 (t : Table) (a1 : Layout) : List Ask → Int → (List Int) → Option (Sum (List Int) (Bool))
 | [], i36, p35 => some (.inl p35)
 | x37 :: l, i36, p35 => Option.bind (cond (r12Cell x37.cell x37.peer a1) (cond (decide (i36 > 0)) (Option.bind (elt t.asks (IntKind.i64.wrap (i36 - 1))) fun v44 => some (decide (v44.cell.slot ≥ x37.cell.slot))) (some false)) (some true)) fun v41 => cond v41 (some (.inr false)) (cond (decide (0 ≤ x37.cell.slot ∧ x37.cell.slot < (p35.length : Int))) (Option.bind (elt p35 x37.cell.slot) fun v47 => cond (decide (0 ≤ x37.cell.slot ∧ x37.cell.slot < (p35.length : Int))) (Option.bind (elt p35 x37.cell.slot) fun v49 => r12Valid_L3 t a1 l (i36 + 1) (p35.set x37.cell.slot.toNat (IntKind.i64.wrap (v47 + 1)))) none) none)
def r12Valid_L4 : List Int → Option (Sum (Unit) (Bool))
 | [] => some (.inl ())
 | x51 :: l => cond (decide (x51 > 1)) (some (.inr false)) (r12Valid_L4 l)
def r12Valid (t : Table) (a1 : Layout) : Option (Bool) := cond (cond (r12Layout a1) ((decide ((IntKind.i64.wrap ((t.uses.length : Int) + (t.grants.length : Int))) > 24)) || (decide ((t.asks.length : Int) > 24))) true) (some false) (cond (decide (0 ≤ a1.data ∧ a1.data ≤ a1.data ∧ a1.data ≤ 4294967296)) (Option.bind (r12Valid_L1 t a1 t.uses 0 (List.replicate a1.data.toNat (0 : Int))) fun v8 => Sum.elim (fun v9 => Option.bind (r12Valid_L2 t a1 t.grants 0 v9) fun v23 => Sum.elim (fun v24 => Option.bind (r12Valid_L3 t a1 t.asks 0 v24) fun v38 => Sum.elim (fun v39 => Option.bind (r12Valid_L4 v39) fun v52 => Sum.elim (fun v53 => some true) (fun v54 => some v54) v52) (fun v40 => some v40) v38) (fun v25 => some v25) v23) (fun v10 => some v10) v8) none)
theorem r12Valid_ok (t : Table) (a1 : Layout) (r : Bool) (h : r12Valid t a1 = some r) : PCalls Tryz.prog 20 [encTable t, encLayout a1] (B r) := by
 unfold r12Valid at h
 refine xe 197 Tryz.func20 ?_
 refine xsr ?_
 refine xa ?_
 refine xa ?_
 refine xp ?_
 refine xq ?_
 refine vc_seq ?_
 refine vc_seq ?_
 refine xk [] [(2, .d (.ptr [.list 4 (t.uses.map encUse), .list 5 (t.grants.map encGrant), .list 3 (t.asks.map encAsk)])), (3, .d (.ptr [I a1.nodes, I a1.data]))] .nil ⟨.z (.own' rfl (.cons .d (.cons .d (.cons .d .nil)))) .refl, .z (.own' rfl (.cons .d (.cons .d .nil))) .refl, trivial⟩ ?_
 refine vc_midQ [(2, .d (.ptr [.list 4 (t.uses.map encUse), .list 5 (t.grants.map encGrant), .list 3 (t.asks.map encAsk)])), (3, .d (.ptr [I a1.nodes, I a1.data])), (28, .d (B (cond (r12Layout a1) ((decide ((IntKind.i64.wrap ((t.uses.length : Int) + (t.grants.length : Int))) > 24)) || (decide ((t.asks.length : Int) > 24))) true)))] [] ?_ ?_
 ·refine xr ?_
  refine xp ?_
  refine xc (r12Layout_ok a1 _ rfl) ?_
  iterate 2 refine xp ?_
  cases c1 : (r12Layout a1) with
  | true =>
   iterate 2 refine xp ?_
   refine xl ?_
   iterate 2 refine xp ?_
   refine xl ?_
   iterate 4 refine xp ?_
   cases c2 : decide ((IntKind.i64.wrap ((t.uses.length : Int) + (t.grants.length : Int))) > 24) with
   | true =>
    iterate 4 refine xs ?_
    refine xp ?_
    refine xq ?_
    exact xm [] .nil (xh3 trivial)
   | false =>
    iterate 2 refine xp ?_
    refine xl ?_
    iterate 2 refine xp ?_
    refine xq ?_
    exact xm [] .nil (xh3 trivial)
  | false =>
   iterate 8 refine xs ?_
   iterate 2 refine xp ?_
   iterate 4 refine xs ?_
   refine xp ?_
   refine xq ?_
   exact xm [] .nil (xh3 trivial)
 ·cases c3 : (cond (r12Layout a1) ((decide ((IntKind.i64.wrap ((t.uses.length : Int) + (t.grants.length : Int))) > 24)) || (decide ((t.asks.length : Int) > 24))) true) with
  | true =>
   have h := cT c3 h
   refine vc_condT rfl ?_
   refine xsr ?_
   refine xp ?_
   refine xq ?_
   replace h := Option.some.inj h
   refine vc_ret ⟨.inr rfl, [B false], (.cons rfl ⟨_, .d, .refl⟩ .nil), ?_⟩
   first | (rw [← h]; done) | (rw [← h]; rfl) | (rw [← h]; simp)
  | false =>
   have h := cF c3 h
   refine vc_condF rfl ?_
   refine vc_skip ?_
   refine xsr ?_
   iterate 2 refine xp ?_
   obtain ⟨g4, h⟩ := gd h; replace g4 := dT g4
   refine rmk rfl rfl rfl rfl rfl rfl rfl rfl rfl g4.1 g4.2.1 g4.2.2 (by show _ * 8 ≤ _; omega) ?_
   refine xp ?_
   refine xq ?_
   refine vc_seq ?_
   refine xsr ?_
   refine xp ?_
   refine xq ?_
   obtain ⟨v8, hv8, hLv8⟩ := bindO h
   refine vc_mid2 v8 (fun v9 => [(2, .d (.ptr [.list 4 (t.uses.map encUse), .list 5 (t.grants.map encGrant), .list 3 (t.asks.map encAsk)])), (3, .d (.ptr [I a1.nodes, I a1.data])), (5, .osl 0 v9.length)]) (fun v9 => [.arr 3 1 (v9.map I)]) ?_ ?_
   ·refine vc_block ?_
    refine vc_loop ?_
    refine xK [0] [(2, .d (.ptr [.list 4 (t.uses.map encUse), .list 5 (t.grants.map encGrant), .list 3 (t.asks.map encAsk)])), (3, .d (.ptr [I a1.nodes, I a1.data])), (5, .osl 0 ((List.replicate a1.data.toNat (0 : Int)).length)), (6, .d (I 0))] (σ' := [.arr 3 1 ((List.replicate a1.data.toNat (0 : Int)).map I)]) (.cons rfl (.arr (by first | rfl | (simp <;> rfl))) .nil) (xh2 ⟨.h (oslE rfl (by first | rfl | (simp <;> rfl))) rfl, (xh1 trivial)⟩) ?_
    refine vcl_lenS 2 rfl (.ptr 0 rfl .here) (fun hlen => ?_)
    replace hlen := len_map hlen
    refine vcl_rec t.uses (fun (pre l : List Use) (s : List Int) => r12Valid_L1 t a1 l (pre.length : Int) s) (some v8) (fun pre s => envOf [(2, .d (.ptr [.list 4 (t.uses.map encUse), .list 5 (t.grants.map encGrant), .list 3 (t.asks.map encAsk)])), (3, .d (.ptr [I a1.nodes, I a1.data])), (5, .osl 0 s.length), (6, .d (I (pre.length : Int)))]) (fun pre s => [.arr 3 1 (s.map I)]) ?step1 ?done1 (List.replicate a1.data.toNat (0 : Int)) hv8
    case step1 =>
     rintro pre x7 l p5 hpre hlt h ih
     have hprex7 := hpre
     replace h : r12Valid_L1 t a1 (x7 :: l) (pre.length : Int) p5 = some v8 := h
     show VCL _ _ _ _ _ (envOf _) (_ :: _)
     obtain ⟨i6, hi⟩ : ∃ i : Int, i = (pre.length : Int) := ⟨_, rfl⟩
     have hix7 := hi
     rw [← hi] at h ⊢
     rw [r12Valid_L1] at h
     refine vcl_unroll ?_
     refine vc_seq ?_
     refine xsr ?_
     iterate 3 refine xp ?_
     refine xl ?_
     refine xp ?_
     refine xq ?_
     refine vc_cond rfl (fun _ => ?_) (fun hf => absurd hf (by simp; omega))
     refine vc_skip ?_
     refine vc_seq ?_
     refine vc_block ?_
     refine vc_seq ?_
     refine vc_seq ?_
     obtain ⟨v11, hv11, h⟩ := bindO h
     refine vc_midQ [(2, .d (.ptr [.list 4 (t.uses.map encUse), .list 5 (t.grants.map encGrant), .list 3 (t.asks.map encAsk)])), (3, .d (.ptr [I a1.nodes, I a1.data])), (5, .osl 0 p5.length), (6, .d (I i6)), (68, .d (B v11))] [.arr 3 1 (p5.map I)] ?_ ?_
     ·replace h := hv11; clear hv11
      refine xd ?_
      iterate 3 refine xp ?_
      refine ri rfl rfl rfl rfl rfl rfl rfl (by omega) (by rw [hix7]; exact idxp hprex7) ?_
      iterate 2 refine xp ?_
      refine xc (r12Use_ok x7 a1 _ rfl) ?_
      iterate 2 refine xp ?_
      cases c12 : (r12Use x7 a1) with
      | true =>
       have h := cT c12 h
       iterate 3 refine xp ?_
       cases c13 : decide (i6 > 0) with
       | true =>
        have h := cT c13 h
        iterate 4 refine xp ?_
        obtain ⟨v14, hv14, h⟩ := bindO h
        refine ri rfl rfl rfl rfl rfl rfl rfl (elt0 hv14) (eltm _ hv14) ?_
        iterate 6 refine xp ?_
        refine ri rfl rfl rfl rfl rfl rfl rfl (by omega) (by rw [hix7]; exact idxp hprex7) ?_
        iterate 6 refine xp ?_
        cases h
        refine xq ?_
        exact xm [0] ((.cons rfl (.arr (by first | rfl | (simp <;> rfl))) .nil)) (xh5 trivial)
       | false =>
        have h := cF c13 h
        iterate 16 refine xs ?_
        iterate 2 refine xp ?_
        cases h
        refine xq ?_
        exact xm [0] ((.cons rfl (.arr (by first | rfl | (simp <;> rfl))) .nil)) (xh5 trivial)
      | false =>
       have h := cF c12 h
       iterate 20 refine xs ?_
       refine xp ?_
       cases h
       refine xq ?_
       exact xm [0] ((.cons rfl (.arr (by first | rfl | (simp <;> rfl))) .nil)) (xh5 trivial)
     ·cases c15 : v11 with
      | true =>
       have h := cT c15 h
       refine vc_condT rfl ?_
       refine xsr ?_
       refine xp ?_
       refine xq ?_
       cases h
       have h := sumR hLv8
       replace h := Option.some.inj h
       refine vc_ret ⟨.inr rfl, [B false], (.cons rfl ⟨_, .d, .refl⟩ .nil), ?_⟩
       first | (rw [← h]; done) | (rw [← h]; rfl) | (rw [← h]; simp)
      | false =>
       have h := cF c15 h
       refine vc_condF rfl ?_
       refine vc_skip ?_
       refine xr ?_
       iterate 4 refine xp ?_
       refine ri rfl rfl rfl rfl rfl rfl rfl (by omega) (by rw [hix7]; exact idxp hprex7) ?_
       iterate 3 refine xp ?_
       obtain ⟨g16, h⟩ := gd h; replace g16 := dT g16
       refine rio rfl rfl rfl rfl rfl rfl rfl rfl (by simp) g16.1 g16.2 ?_
       obtain ⟨v17, hv17, h⟩ := bindO h
       refine rlo rfl rfl rfl rfl rfl rfl rfl (by simp) (eltm _ hv17) rfl ?_
       refine xp ?_
       obtain ⟨g18, h⟩ := gd h; replace g18 := dT g18
       refine rio rfl rfl rfl rfl rfl rfl rfl rfl (by simp) g18.1 g18.2 ?_
       obtain ⟨v19, hv19, h⟩ := bindO h
       refine rso rfl rfl rfl rfl rfl rfl rfl rfl rfl (by simp) (eltm _ hv19) (Nat.le_of_ble_eq_true rfl) rfl ?_
       refine xq ?_
       refine xr ?_
       iterate 3 refine xp ?_
       refine xq ?_
       exact xv [0] (ih (p5.set x7.cell.slot.toNat (IntKind.i64.wrap (v17 + 1))) (by show r12Valid_L1 t a1 _ (((pre ++ [x7]).length : Nat) : Int) (p5.set x7.cell.slot.toNat (IntKind.i64.wrap (v17 + 1))) = _; rw [cnt1, ← hi]; exact h)) (.cons rfl (.arr (by first | rfl | (simp <;> rfl))) .nil) (xh2 ⟨.h (oslE rfl (by first | rfl | (simp <;> rfl))) rfl, ⟨.e rfl (cntI hi hlt hlen), trivial⟩⟩)
    case done1 =>
     rintro p5 h
     replace h : r12Valid_L1 t a1 [] (t.uses.length : Int) p5 = some v8 := h
     rw [r12Valid_L1] at h
     show VCL _ _ _ _ _ (envOf _) (_ :: _)
     refine vcl_unroll ?_
     refine vc_seq ?_
     refine xsr ?_
     iterate 3 refine xp ?_
     refine xl ?_
     refine xp ?_
     refine xq ?_
     refine vc_cond rfl (fun ht => absurd ht (by simp; try omega)) (fun _ => ?_)
     refine vc_exit ?_
     cases h
     exact xm [0] (.cons rfl (.arr (by first | rfl | (simp <;> rfl))) .nil) (xh3 trivial)
   ·rintro v9 rfl
    have h := sumL hLv8
    refine vc_seq ?_
    refine xsr ?_
    refine xp ?_
    refine xq ?_
    obtain ⟨v23, hv23, hLv23⟩ := bindO h
    refine vc_mid2 v23 (fun v24 => [(2, .d (.ptr [.list 4 (t.uses.map encUse), .list 5 (t.grants.map encGrant), .list 3 (t.asks.map encAsk)])), (3, .d (.ptr [I a1.nodes, I a1.data])), (5, .osl 0 v24.length)]) (fun v24 => [.arr 3 1 (v24.map I)]) ?_ ?_
    ·refine vc_block ?_
     refine vc_loop ?_
     refine xK [0] [(2, .d (.ptr [.list 4 (t.uses.map encUse), .list 5 (t.grants.map encGrant), .list 3 (t.asks.map encAsk)])), (3, .d (.ptr [I a1.nodes, I a1.data])), (5, .osl 0 v9.length), (7, .d (I 0))] (σ' := [.arr 3 1 (v9.map I)]) (.cons rfl (.arr (by first | rfl | (simp <;> rfl))) .nil) (xh3 (xh1 trivial)) ?_
     refine vcl_lenS 2 rfl (.ptr 1 rfl .here) (fun hlen => ?_)
     replace hlen := len_map hlen
     refine vcl_rec t.grants (fun (pre l : List Grant) (s : List Int) => r12Valid_L2 t a1 l (pre.length : Int) s) (some v23) (fun pre s => envOf [(2, .d (.ptr [.list 4 (t.uses.map encUse), .list 5 (t.grants.map encGrant), .list 3 (t.asks.map encAsk)])), (3, .d (.ptr [I a1.nodes, I a1.data])), (5, .osl 0 s.length), (7, .d (I (pre.length : Int)))]) (fun pre s => [.arr 3 1 (s.map I)]) ?step2 ?done2 v9 hv23
     case step2 =>
      rintro pre x22 l p20 hpre hlt h ih
      have hprex22 := hpre
      replace h : r12Valid_L2 t a1 (x22 :: l) (pre.length : Int) p20 = some v23 := h
      show VCL _ _ _ _ _ (envOf _) (_ :: _)
      obtain ⟨i21, hi⟩ : ∃ i : Int, i = (pre.length : Int) := ⟨_, rfl⟩
      have hix22 := hi
      rw [← hi] at h ⊢
      rw [r12Valid_L2] at h
      refine vcl_unroll ?_
      refine vc_seq ?_
      refine xsr ?_
      iterate 3 refine xp ?_
      refine xl ?_
      refine xp ?_
      refine xq ?_
      refine vc_cond rfl (fun _ => ?_) (fun hf => absurd hf (by simp; omega))
      refine vc_skip ?_
      refine vc_seq ?_
      refine vc_block ?_
      refine vc_seq ?_
      refine vc_seq ?_
      obtain ⟨v26, hv26, h⟩ := bindO h
      refine vc_midQ [(2, .d (.ptr [.list 4 (t.uses.map encUse), .list 5 (t.grants.map encGrant), .list 3 (t.asks.map encAsk)])), (3, .d (.ptr [I a1.nodes, I a1.data])), (5, .osl 0 p20.length), (7, .d (I i21)), (117, .d (B v26))] [.arr 3 1 (p20.map I)] ?_ ?_
      ·replace h := hv26; clear hv26
       refine xd ?_
       iterate 3 refine xp ?_
       refine ri rfl rfl rfl rfl rfl rfl rfl (by omega) (by rw [hix22]; exact idxp hprex22) ?_
       iterate 2 refine xp ?_
       refine xc (r12Grant_ok x22 a1 _ rfl) ?_
       iterate 2 refine xp ?_
       cases c27 : (r12Grant x22 a1) with
       | true =>
        have h := cT c27 h
        iterate 3 refine xp ?_
        cases c28 : decide (i21 > 0) with
        | true =>
         have h := cT c28 h
         iterate 4 refine xp ?_
         obtain ⟨v29, hv29, h⟩ := bindO h
         refine ri rfl rfl rfl rfl rfl rfl rfl (elt0 hv29) (eltm _ hv29) ?_
         iterate 6 refine xp ?_
         refine ri rfl rfl rfl rfl rfl rfl rfl (by omega) (by rw [hix22]; exact idxp hprex22) ?_
         iterate 6 refine xp ?_
         cases h
         refine xq ?_
         exact xm [0] ((.cons rfl (.arr (by first | rfl | (simp <;> rfl))) .nil)) (xh5 trivial)
        | false =>
         have h := cF c28 h
         iterate 16 refine xs ?_
         iterate 2 refine xp ?_
         cases h
         refine xq ?_
         exact xm [0] ((.cons rfl (.arr (by first | rfl | (simp <;> rfl))) .nil)) (xh5 trivial)
       | false =>
        have h := cF c27 h
        iterate 20 refine xs ?_
        refine xp ?_
        cases h
        refine xq ?_
        exact xm [0] ((.cons rfl (.arr (by first | rfl | (simp <;> rfl))) .nil)) (xh5 trivial)
      ·cases c30 : v26 with
       | true =>
        have h := cT c30 h
        refine vc_condT rfl ?_
        refine xsr ?_
        refine xp ?_
        refine xq ?_
        cases h
        have h := sumR hLv23
        replace h := Option.some.inj h
        refine vc_ret ⟨.inr rfl, [B false], (.cons rfl ⟨_, .d, .refl⟩ .nil), ?_⟩
        first | (rw [← h]; done) | (rw [← h]; rfl) | (rw [← h]; simp)
       | false =>
        have h := cF c30 h
        refine vc_condF rfl ?_
        refine vc_skip ?_
        refine xr ?_
        iterate 4 refine xp ?_
        refine ri rfl rfl rfl rfl rfl rfl rfl (by omega) (by rw [hix22]; exact idxp hprex22) ?_
        iterate 3 refine xp ?_
        obtain ⟨g31, h⟩ := gd h; replace g31 := dT g31
        refine rio rfl rfl rfl rfl rfl rfl rfl rfl (by simp) g31.1 g31.2 ?_
        obtain ⟨v32, hv32, h⟩ := bindO h
        refine rlo rfl rfl rfl rfl rfl rfl rfl (by simp) (eltm _ hv32) rfl ?_
        refine xp ?_
        obtain ⟨g33, h⟩ := gd h; replace g33 := dT g33
        refine rio rfl rfl rfl rfl rfl rfl rfl rfl (by simp) g33.1 g33.2 ?_
        obtain ⟨v34, hv34, h⟩ := bindO h
        refine rso rfl rfl rfl rfl rfl rfl rfl rfl rfl (by simp) (eltm _ hv34) (Nat.le_of_ble_eq_true rfl) rfl ?_
        refine xq ?_
        refine xr ?_
        iterate 3 refine xp ?_
        refine xq ?_
        exact xv [0] (ih (p20.set x22.cell.slot.toNat (IntKind.i64.wrap (v32 + 1))) (by show r12Valid_L2 t a1 _ (((pre ++ [x22]).length : Nat) : Int) (p20.set x22.cell.slot.toNat (IntKind.i64.wrap (v32 + 1))) = _; rw [cnt1, ← hi]; exact h)) (.cons rfl (.arr (by first | rfl | (simp <;> rfl))) .nil) (xh2 ⟨.h (oslE rfl (by first | rfl | (simp <;> rfl))) rfl, ⟨.e rfl (cntI hi hlt hlen), trivial⟩⟩)
     case done2 =>
      rintro p20 h
      replace h : r12Valid_L2 t a1 [] (t.grants.length : Int) p20 = some v23 := h
      rw [r12Valid_L2] at h
      show VCL _ _ _ _ _ (envOf _) (_ :: _)
      refine vcl_unroll ?_
      refine vc_seq ?_
      refine xsr ?_
      iterate 3 refine xp ?_
      refine xl ?_
      refine xp ?_
      refine xq ?_
      refine vc_cond rfl (fun ht => absurd ht (by simp; try omega)) (fun _ => ?_)
      refine vc_exit ?_
      cases h
      exact xm [0] (.cons rfl (.arr (by first | rfl | (simp <;> rfl))) .nil) (xh3 trivial)
    ·rintro v24 rfl
     have h := sumL hLv23
     refine vc_seq ?_
     refine xsr ?_
     refine xp ?_
     refine xq ?_
     obtain ⟨v38, hv38, hLv38⟩ := bindO h
     refine vc_mid2 v38 (fun v39 => [(5, .osl 0 v39.length)]) (fun v39 => [.arr 3 1 (v39.map I)]) ?_ ?_
     ·refine vc_block ?_
      refine vc_loop ?_
      refine xK [0] [(2, .d (.ptr [.list 4 (t.uses.map encUse), .list 5 (t.grants.map encGrant), .list 3 (t.asks.map encAsk)])), (3, .d (.ptr [I a1.nodes, I a1.data])), (5, .osl 0 v24.length), (8, .d (I 0))] (σ' := [.arr 3 1 (v24.map I)]) (.cons rfl (.arr (by first | rfl | (simp <;> rfl))) .nil) (xh3 (xh1 trivial)) ?_
      refine vcl_lenS 2 rfl (.ptr 2 rfl .here) (fun hlen => ?_)
      replace hlen := len_map hlen
      refine vcl_rec t.asks (fun (pre l : List Ask) (s : List Int) => r12Valid_L3 t a1 l (pre.length : Int) s) (some v38) (fun pre s => envOf [(2, .d (.ptr [.list 4 (t.uses.map encUse), .list 5 (t.grants.map encGrant), .list 3 (t.asks.map encAsk)])), (3, .d (.ptr [I a1.nodes, I a1.data])), (5, .osl 0 s.length), (8, .d (I (pre.length : Int)))]) (fun pre s => [.arr 3 1 (s.map I)]) ?step3 ?done3 v24 hv38
      case step3 =>
       rintro pre x37 l p35 hpre hlt h ih
       have hprex37 := hpre
       replace h : r12Valid_L3 t a1 (x37 :: l) (pre.length : Int) p35 = some v38 := h
       show VCL _ _ _ _ _ (envOf _) (_ :: _)
       obtain ⟨i36, hi⟩ : ∃ i : Int, i = (pre.length : Int) := ⟨_, rfl⟩
       have hix37 := hi
       rw [← hi] at h ⊢
       rw [r12Valid_L3] at h
       refine vcl_unroll ?_
       refine vc_seq ?_
       refine xsr ?_
       iterate 3 refine xp ?_
       refine xl ?_
       refine xp ?_
       refine xq ?_
       refine vc_cond rfl (fun _ => ?_) (fun hf => absurd hf (by simp; omega))
       refine vc_skip ?_
       refine vc_seq ?_
       refine vc_block ?_
       refine vc_seq ?_
       refine vc_seq ?_
       obtain ⟨v41, hv41, h⟩ := bindO h
       refine vc_midQ [(2, .d (.ptr [.list 4 (t.uses.map encUse), .list 5 (t.grants.map encGrant), .list 3 (t.asks.map encAsk)])), (3, .d (.ptr [I a1.nodes, I a1.data])), (5, .osl 0 p35.length), (8, .d (I i36)), (173, .d (B v41))] [.arr 3 1 (p35.map I)] ?_ ?_
       ·replace h := hv41; clear hv41
        refine xd ?_
        iterate 3 refine xp ?_
        refine ri rfl rfl rfl rfl rfl rfl rfl (by omega) (by rw [hix37]; exact idxp hprex37) ?_
        iterate 5 refine xp ?_
        refine ri rfl rfl rfl rfl rfl rfl rfl (by omega) (by rw [hix37]; exact idxp hprex37) ?_
        iterate 3 refine xp ?_
        refine xc (r12Cell_ok x37.cell x37.peer a1 _ rfl) ?_
        iterate 2 refine xp ?_
        cases c42 : (r12Cell x37.cell x37.peer a1) with
        | true =>
         have h := cT c42 h
         iterate 3 refine xp ?_
         cases c43 : decide (i36 > 0) with
         | true =>
          have h := cT c43 h
          iterate 4 refine xp ?_
          obtain ⟨v44, hv44, h⟩ := bindO h
          refine ri rfl rfl rfl rfl rfl rfl rfl (elt0 hv44) (eltm _ hv44) ?_
          iterate 6 refine xp ?_
          refine ri rfl rfl rfl rfl rfl rfl rfl (by omega) (by rw [hix37]; exact idxp hprex37) ?_
          iterate 6 refine xp ?_
          cases h
          refine xq ?_
          exact xm [0] ((.cons rfl (.arr (by first | rfl | (simp <;> rfl))) .nil)) (xh5 trivial)
         | false =>
          have h := cF c43 h
          iterate 16 refine xs ?_
          iterate 2 refine xp ?_
          cases h
          refine xq ?_
          exact xm [0] ((.cons rfl (.arr (by first | rfl | (simp <;> rfl))) .nil)) (xh5 trivial)
        | false =>
         have h := cF c42 h
         iterate 20 refine xs ?_
         refine xp ?_
         cases h
         refine xq ?_
         exact xm [0] ((.cons rfl (.arr (by first | rfl | (simp <;> rfl))) .nil)) (xh5 trivial)
       ·cases c45 : v41 with
        | true =>
         have h := cT c45 h
         refine vc_condT rfl ?_
         refine xsr ?_
         refine xp ?_
         refine xq ?_
         cases h
         have h := sumR hLv38
         replace h := Option.some.inj h
         refine vc_ret ⟨.inr rfl, [B false], (.cons rfl ⟨_, .d, .refl⟩ .nil), ?_⟩
         first | (rw [← h]; done) | (rw [← h]; rfl) | (rw [← h]; simp)
        | false =>
         have h := cF c45 h
         refine vc_condF rfl ?_
         refine vc_skip ?_
         refine xr ?_
         iterate 4 refine xp ?_
         refine ri rfl rfl rfl rfl rfl rfl rfl (by omega) (by rw [hix37]; exact idxp hprex37) ?_
         iterate 3 refine xp ?_
         obtain ⟨g46, h⟩ := gd h; replace g46 := dT g46
         refine rio rfl rfl rfl rfl rfl rfl rfl rfl (by simp) g46.1 g46.2 ?_
         obtain ⟨v47, hv47, h⟩ := bindO h
         refine rlo rfl rfl rfl rfl rfl rfl rfl (by simp) (eltm _ hv47) rfl ?_
         refine xp ?_
         obtain ⟨g48, h⟩ := gd h; replace g48 := dT g48
         refine rio rfl rfl rfl rfl rfl rfl rfl rfl (by simp) g48.1 g48.2 ?_
         obtain ⟨v49, hv49, h⟩ := bindO h
         refine rso rfl rfl rfl rfl rfl rfl rfl rfl rfl (by simp) (eltm _ hv49) (Nat.le_of_ble_eq_true rfl) rfl ?_
         refine xq ?_
         refine xr ?_
         iterate 3 refine xp ?_
         refine xq ?_
         exact xv [0] (ih (p35.set x37.cell.slot.toNat (IntKind.i64.wrap (v47 + 1))) (by show r12Valid_L3 t a1 _ (((pre ++ [x37]).length : Nat) : Int) (p35.set x37.cell.slot.toNat (IntKind.i64.wrap (v47 + 1))) = _; rw [cnt1, ← hi]; exact h)) (.cons rfl (.arr (by first | rfl | (simp <;> rfl))) .nil) (xh2 ⟨.h (oslE rfl (by first | rfl | (simp <;> rfl))) rfl, ⟨.e rfl (cntI hi hlt hlen), trivial⟩⟩)
      case done3 =>
       rintro p35 h
       replace h : r12Valid_L3 t a1 [] (t.asks.length : Int) p35 = some v38 := h
       rw [r12Valid_L3] at h
       show VCL _ _ _ _ _ (envOf _) (_ :: _)
       refine vcl_unroll ?_
       refine vc_seq ?_
       refine xsr ?_
       iterate 3 refine xp ?_
       refine xl ?_
       refine xp ?_
       refine xq ?_
       refine vc_cond rfl (fun ht => absurd ht (by simp; try omega)) (fun _ => ?_)
       refine vc_exit ?_
       cases h
       exact xm [0] (.cons rfl (.arr (by first | rfl | (simp <;> rfl))) .nil) (xh1 trivial)
     ·rintro v39 rfl
      have h := sumL hLv38
      refine vc_seq ?_
      refine vc_seq ?_
      refine xk [] [(5, .d (.list 1 (v39.map I)))] .nil ⟨.z (.osl rfl (by simp)) .refl, trivial⟩ ?_
      refine xr ?_
      refine xp ?_
      refine xq ?_
      obtain ⟨v52, hv52, hLv52⟩ := bindO h
      refine vc_mid2 v52 (fun v53 => []) (fun v53 => []) ?_ ?_
      ·refine vc_block ?_
       refine vc_loop ?_
       refine xK [] [(5, .d (.list 1 (v39.map I))), (9, .d (I 0))] .nil (xh2 trivial) ?_
       refine vcl_len 5 rfl (fun hlen => ?_)
       replace hlen := len_map hlen
       refine vcl_rec v39 (fun (pre l : List Int) (s : Unit) => r12Valid_L4 l) (some v52) (fun pre s => envOf [(5, .d (.list 1 (v39.map I))), (9, .d (I (pre.length : Int)))]) (fun pre s => []) ?step4 ?done4 () hv52
       case step4 =>
        rintro pre x51 l _ hpre hlt h ih
        have hprex51 := hpre
        replace h : r12Valid_L4 (x51 :: l) = some v52 := h
        show VCL _ _ _ _ _ (envOf _) []
        obtain ⟨i50, hi⟩ : ∃ i : Int, i = (pre.length : Int) := ⟨_, rfl⟩
        have hix51 := hi
        rw [← hi]
        rw [r12Valid_L4] at h
        refine vcl_unroll ?_
        refine vc_seq ?_
        refine xsr ?_
        iterate 2 refine xp ?_
        refine xl ?_
        refine xp ?_
        refine xq ?_
        refine vc_cond rfl (fun _ => ?_) (fun hf => absurd hf (by simp; omega))
        refine vc_skip ?_
        refine vc_seq ?_
        refine vc_block ?_
        refine xsr ?_
        iterate 2 refine xp ?_
        refine ri rfl rfl rfl rfl rfl rfl rfl (by omega) (by rw [hix51]; exact idxp hprex51) ?_
        iterate 2 refine xp ?_
        refine xq ?_
        cases c55 : decide (x51 > 1) with
        | true =>
         have h := cT c55 h
         refine vc_condT rfl ?_
         refine xsr ?_
         refine xp ?_
         refine xq ?_
         cases h
         have h := sumR hLv52
         replace h := Option.some.inj h
         refine vc_ret ⟨.inr rfl, [B false], (.cons rfl ⟨_, .d, .refl⟩ .nil), ?_⟩
         first | (rw [← h]; done) | (rw [← h]; rfl) | (rw [← h]; simp)
        | false =>
         have h := cF c55 h
         refine vc_condF rfl ?_
         refine vc_skip ?_
         refine xr ?_
         iterate 3 refine xp ?_
         refine xq ?_
         exact xv [] (ih () h) .nil (xh1 ⟨.e rfl (cntI hi hlt hlen), trivial⟩)
       case done4 =>
        rintro _ h
        replace h : r12Valid_L4 [] = some v52 := h
        rw [r12Valid_L4] at h
        show VCL _ _ _ _ _ (envOf _) []
        refine vcl_unroll ?_
        refine vc_seq ?_
        refine xsr ?_
        iterate 2 refine xp ?_
        refine xl ?_
        refine xp ?_
        refine xq ?_
        refine vc_cond rfl (fun ht => absurd ht (by simp; try omega)) (fun _ => ?_)
        refine vc_exit ?_
        cases h
        exact xm [] .nil trivial
      ·rintro v53 rfl
       have h := sumL hLv52
       refine xsr ?_
       refine xp ?_
       refine xq ?_
       replace h := Option.some.inj h
       refine vc_ret ⟨.inr rfl, [B true], (.cons rfl ⟨_, .d, .refl⟩ .nil), ?_⟩
       first | (rw [← h]; done) | (rw [← h]; rfl) | (rw [← h]; simp)
def r12refused (t : Table) (a1 : Layout) (slot : Int) (valid : Bool) : Option (Int) := Option.bind (Option.bind (r12Valid t a1) fun v2 => cond v2 (some (!valid)) (some true)) fun v1 => cond v1 (some 1) (cond (r12Busy t slot) (some 5) (cond (decide ((IntKind.i64.wrap ((t.uses.length : Int) + (t.grants.length : Int))) ≥ 24)) (some 10) (some 0)))
theorem r12refused_ok (t : Table) (a1 : Layout) (slot : Int) (valid : Bool) (r : Int) (h : r12refused t a1 slot valid = some r) : PCalls Tryz.prog 110 [encTable t, encLayout a1, I slot, B valid] (I r) := by
 unfold r12refused at h
 refine xe 28 Tryz.func110 ?_
 refine xsr ?_
 refine xa ?_
 refine xa ?_
 refine xp ?_
 refine xq ?_
 refine vc_seq ?_
 refine vc_seq ?_
 refine xk [] [(2, .d (I slot)), (3, .d (B valid)), (4, .d (.ptr [.list 4 (t.uses.map encUse), .list 5 (t.grants.map encGrant), .list 3 (t.asks.map encAsk)])), (5, .d (.ptr [I a1.nodes, I a1.data]))] .nil (xh2 ⟨.z (.own' rfl (.cons .d (.cons .d (.cons .d .nil)))) .refl, ⟨.z (.own' rfl (.cons .d (.cons .d .nil))) .refl, trivial⟩⟩) ?_
 obtain ⟨v1, hv1, h⟩ := bindO h
 refine vc_midQ [(2, .d (I slot)), (4, .d (.ptr [.list 4 (t.uses.map encUse), .list 5 (t.grants.map encGrant), .list 3 (t.asks.map encAsk)])), (16, .d (B v1))] [] ?_ ?_
 ·replace h := hv1; clear hv1
  refine xr ?_
  iterate 2 refine xp ?_
  obtain ⟨v2, hv2, h⟩ := bindO h
  refine xc (r12Valid_ok t a1 _ hv2) ?_
  iterate 2 refine xp ?_
  cases c3 : v2 with
  | true =>
   have h := cT c3 h
   iterate 3 refine xp ?_
   cases h
   refine xq ?_
   exact xm [] .nil (xh3 trivial)
  | false =>
   have h := cF c3 h
   iterate 2 refine xs ?_
   refine xp ?_
   cases h
   refine xq ?_
   exact xm [] .nil (xh3 trivial)
 ·cases c4 : v1 with
  | true =>
   have h := cT c4 h
   refine vc_condT rfl ?_
   refine xsr ?_
   refine xp ?_
   refine xq ?_
   replace h := Option.some.inj h
   refine vc_ret ⟨.inr rfl, [I 1], (.cons rfl ⟨_, .d, .refl⟩ .nil), ?_⟩
   first | (rw [← h]; done) | (rw [← h]; rfl) | (rw [← h]; simp)
  | false =>
   have h := cF c4 h
   refine vc_condF rfl ?_
   refine vc_skip ?_
   refine vc_seq ?_
   refine xsr ?_
   iterate 2 refine xp ?_
   refine xc (r12Busy_ok t slot _ rfl) ?_
   refine xq ?_
   cases c5 : (r12Busy t slot) with
   | true =>
    have h := cT c5 h
    refine vc_condT rfl ?_
    refine xsr ?_
    refine xp ?_
    refine xq ?_
    replace h := Option.some.inj h
    refine vc_ret ⟨.inr rfl, [I 5], (.cons rfl ⟨_, .d, .refl⟩ .nil), ?_⟩
    first | (rw [← h]; done) | (rw [← h]; rfl) | (rw [← h]; simp)
   | false =>
    have h := cF c5 h
    refine vc_condF rfl ?_
    refine vc_skip ?_
    refine vc_seq ?_
    refine xsr ?_
    iterate 2 refine xp ?_
    refine xl ?_
    iterate 2 refine xp ?_
    refine xl ?_
    iterate 2 refine xp ?_
    refine xq ?_
    cases c6 : decide ((IntKind.i64.wrap ((t.uses.length : Int) + (t.grants.length : Int))) ≥ 24) with
    | true =>
     have h := cT c6 h
     refine vc_condT rfl ?_
     refine xsr ?_
     refine xp ?_
     refine xq ?_
     replace h := Option.some.inj h
     refine vc_ret ⟨.inr rfl, [I 10], (.cons rfl ⟨_, .d, .refl⟩ .nil), ?_⟩
     first | (rw [← h]; done) | (rw [← h]; rfl) | (rw [← h]; simp)
    | false =>
     have h := cF c6 h
     refine vc_condF rfl ?_
     refine vc_skip ?_
     refine xsr ?_
     refine xp ?_
     refine xq ?_
     replace h := Option.some.inj h
     refine vc_ret ⟨.inr rfl, [I 0], (.cons rfl ⟨_, .d, .refl⟩ .nil), ?_⟩
     first | (rw [← h]; done) | (rw [← h]; rfl) | (rw [← h]; simp)
def r12AddGrant_L2 (i6 : Int) : List Grant → (List Grant) → Option (List Grant)
 | [], p8 => some p8
 | x10 :: l, p8 => Option.bind (cond (x10.cell.slot == i6) (cond (decide (p8.length + 1 ≤ 4294967296)) (some (p8 ++ [x10])) none) (some p8)) fun v12 => r12AddGrant_L2 i6 l v12
def r12AddGrant_L1 (t : Table) (a2 : Grant) : Nat → Int → (List Grant) → Option (List Grant)
 | 0, i6, p5 => some p5
 | k + 1, i6, p5 => Option.bind (r12AddGrant_L2 i6 t.grants p5) fun v11 => Option.bind (cond (a2.cell.slot == i6) (cond (decide (v11.length + 1 ≤ 4294967296)) (some (v11 ++ [a2])) none) (some v11)) fun v15 => r12AddGrant_L1 t a2 k (i6 + 1) v15
def r12AddGrant (t : Table) (a1 : Layout) (a2 : Grant) : Option (Table × Int) := Option.bind (r12refused t a1 a2.cell.slot (r12Grant a2 a1)) fun v1 => cond (v1 != 0) (some (⟨[], [], []⟩, v1)) (Option.bind (r12unasked t.asks a2.cell.slot) fun v3 => cond (decide (0 + t.uses.length ≤ 4294967296)) (cond (decide (a1.data ≤ 9223372036854775807)) (Option.bind (r12AddGrant_L1 t a2 (a1.data - 0).toNat 0 []) fun v7 => some (⟨t.uses, v7, v3⟩, 0)) none) none)
theorem r12AddGrant_ok (t : Table) (a1 : Layout) (a2 : Grant) (r : Table × Int) (h : r12AddGrant t a1 a2 = some r) : PCalls Tryz.prog 64 [encTable t, encLayout a1, encGrant a2] (.tuple [encTable r.1, I r.2]) := by
 unfold r12AddGrant at h
 refine xe 82 Tryz.func64 ?_
 refine xsr ?_
 refine xa ?_
 refine xa ?_
 refine xa ?_
 refine xa ?_
 refine xp ?_
 refine xq ?_
 refine vc_seq ?_
 refine xk [3] [(3, .d (.ptr [.list 4 (t.uses.map encUse), .list 5 (t.grants.map encGrant), .list 3 (t.asks.map encAsk)])), (4, .d (.ptr [I a1.nodes, I a1.data])), (5, .d (.ptr (encGrant a2).cells)), (6, .own 0 0)] (σ' := [.cells [.d (.lit (.slice none 0 0)), .d (.lit (.slice none 0 0)), .d (.lit (.slice none 0 0))]]) (.cons rfl (.cells (.cons (.h rfl rfl) (.cons (.h rfl rfl) (.cons (.h rfl rfl) .nil)))) .nil) ⟨.z (.own' rfl (.cons .d (.cons .d (.cons .d .nil)))) .refl, ⟨.z (.own' rfl (.cons .d (.cons .d .nil))) .refl, ⟨.z (.own' rfl (.cons .d (.cons .d (.cons .d (.cons .d (.cons .d .nil)))))) .refl, (xh1 trivial)⟩⟩⟩ ?_
 refine xd ?_
 iterate 7 refine xp ?_
 refine xc (r12Grant_ok a2 a1 _ rfl) ?_
 obtain ⟨v1, hv1, h⟩ := bindO h
 refine xc (r12refused_ok t a1 a2.cell.slot (r12Grant a2 a1) _ hv1) ?_
 refine xp ?_
 refine xq ?_
 refine vc_seq ?_
 refine xsr ?_
 iterate 2 refine xp ?_
 refine xq ?_
 cases c2 : (v1 != 0) with
 | true =>
  have h := cT c2 h
  refine vc_condT rfl ?_
  refine xsr ?_
  iterate 2 refine xp ?_
  refine xw ?_
  refine xp ?_
  refine xq ?_
  replace h := Option.some.inj h
  refine vc_ret ⟨.inr rfl, [encTable ⟨[], [], []⟩, I v1], (.cons rfl ⟨_, .d, (.agg' (.cons .nil (.cons .nil (.cons .nil .nil))))⟩ (.cons rfl ⟨_, .d, .refl⟩ .nil)), ?_⟩
  first | (rw [← h]; done) | (rw [← h]; rfl) | (rw [← h]; simp)
 | false =>
  have h := cF c2 h
  refine vc_condF rfl ?_
  refine vc_skip ?_
  refine xsr ?_
  iterate 5 refine xp ?_
  obtain ⟨v3, hv3, h⟩ := bindO h
  refine xc (r12unasked_ok t.asks a2.cell.slot _ hv3) ?_
  refine xp ?_
  refine xa ?_
  refine xw ?_
  refine xq ?_
  refine vc_seq ?_
  refine VC.weak (weak_ownNilC 1 0 61 4 rfl rfl rfl rfl) ?_
  refine xr ?_
  refine xp ?_
  refine xR ?_
  iterate 2 refine xp ?_
  obtain ⟨g4, h⟩ := gd h; replace g4 := dT g4
  refine rap rfl rfl rfl rfl rfl rfl rfl rfl .list rfl rfl rfl rfl (by simp) (by simp; omega) (by simp; omega) ?_
  refine xp ?_
  refine xw ?_
  refine xq ?_
  refine vc_seq ?_
  refine vc_seq ?_
  refine xk [0, 1] [(3, .d (.ptr [.list 4 (t.uses.map encUse), .list 5 (t.grants.map encGrant), .list 3 (t.asks.map encAsk)])), (4, .d (.ptr [I a1.nodes, I a1.data])), (5, .d (.ptr (encGrant a2).cells)), (6, .own 0 0), (9, .own 1 0)] (σ' := [.cells [.d (.lit (.slice none 0 0)), .d (.lit (.slice none 0 0)), .d (.lit (.slice none 0 0))], .cells [.d (.list 4 (t.uses.map encUse)), .d (.lit (.slice none 0 0)), .d (.list 3 (v3.map encAsk))]]) (.cons rfl (.cells (.cons (.h rfl rfl) (.cons (.h rfl rfl) (.cons (.h rfl rfl) .nil)))) (.cons rfl (.cells (.cons (.z (.osl rfl (by simp)) .refl) (.cons (.h rfl rfl) (.cons (.h rfl rfl) .nil)))) .nil)) (xh5 trivial) ?_
  refine xr ?_
  refine xp ?_
  refine xq ?_
  refine VC.weak (weak_ownNilC 1 1 59 5 rfl rfl rfl rfl) ?_
  obtain ⟨hn, h⟩ := gd h; replace hn := dT hn
  obtain ⟨v7, hv7, hLv7⟩ := bindO h
  refine vc_midQ [(6, .own 0 0), (9, .own 1 0)] [.cells [.d (.lit (.slice none 0 0)), .d (.lit (.slice none 0 0)), .d (.lit (.slice none 0 0))], .cells [.d (.list 4 (t.uses.map encUse)), .osl 2 v7.length, .d (.list 3 (v3.map encAsk))], .arr 59 5 (v7.map encGrant)] ?_ ?_
  ·refine vc_block ?_
   refine vc_loop ?_
   refine xK [0, 1, 2] [(3, .d (.ptr [.list 4 (t.uses.map encUse), .list 5 (t.grants.map encGrant), .list 3 (t.asks.map encAsk)])), (4, .d (.ptr [I a1.nodes, I a1.data])), (5, .d (.ptr (encGrant a2).cells)), (6, .own 0 0), (9, .own 1 0), (10, .d (I 0))] (σ' := [.cells [.d (.lit (.slice none 0 0)), .d (.lit (.slice none 0 0)), .d (.lit (.slice none 0 0))], .cells [.d (.list 4 (t.uses.map encUse)), .osl 2 0, .d (.list 3 (v3.map encAsk))], .arr 59 5 ([].map encGrant)]) (.cons rfl (.cells (.cons (.h rfl rfl) (.cons (.h rfl rfl) (.cons (.h rfl rfl) .nil)))) (.cons rfl (.cells (.cons (.h rfl rfl) (.cons (.h rfl rfl) (.cons (.h rfl rfl) .nil)))) (.cons rfl (.arr (by first | rfl | (simp <;> rfl))) .nil))) (xh5 (xh1 trivial)) ?_
   refine vcl_num a1.data (fun (k : Nat) (i : Int) (s : List Grant) => r12AddGrant_L1 t a2 k i s) (some v7) (fun i s => envOf [(3, .d (.ptr [.list 4 (t.uses.map encUse), .list 5 (t.grants.map encGrant), .list 3 (t.asks.map encAsk)])), (4, .d (.ptr [I a1.nodes, I a1.data])), (5, .d (.ptr (encGrant a2).cells)), (6, .own 0 0), (9, .own 1 0), (10, .d (I i))]) (fun i s => [.cells [.d (.lit (.slice none 0 0)), .d (.lit (.slice none 0 0)), .d (.lit (.slice none 0 0))], .cells [.d (.list 4 (t.uses.map encUse)), .osl 2 s.length, .d (.list 3 (v3.map encAsk))], .arr 59 5 (s.map encGrant)]) ?step1 ?done1 0 [] (by omega) hv7
   case step1 =>
    rintro k i6 p5 h0 h1 h ih
    replace h : r12AddGrant_L1 t a2 (k + 1) i6 p5 = some v7 := h
    rw [r12AddGrant_L1] at h
    show VCL _ _ _ _ _ (envOf _) (_ :: _)
    refine vcl_unroll ?_
    refine vc_seq ?_
    refine xsr ?_
    iterate 4 refine xp ?_
    refine xq ?_
    refine vc_cond rfl (fun _ => ?_) (fun hf => absurd hf (by simp; omega))
    refine vc_skip ?_
    refine vc_seq ?_
    refine vc_block ?_
    refine vc_seq ?_
    refine xsr ?_
    refine xp ?_
    refine xq ?_
    obtain ⟨v11, hv11, hLv11⟩ := bindO h
    refine vc_midQ [(3, .d (.ptr [.list 4 (t.uses.map encUse), .list 5 (t.grants.map encGrant), .list 3 (t.asks.map encAsk)])), (4, .d (.ptr [I a1.nodes, I a1.data])), (5, .d (.ptr (encGrant a2).cells)), (6, .own 0 0), (9, .own 1 0), (10, .d (I i6))] [.cells [.d (.lit (.slice none 0 0)), .d (.lit (.slice none 0 0)), .d (.lit (.slice none 0 0))], .cells [.d (.list 4 (t.uses.map encUse)), .osl 2 v11.length, .d (.list 3 (v3.map encAsk))], .arr 59 5 (v11.map encGrant)] ?_ ?_
    ·refine vc_block ?_
     refine vc_loop ?_
     refine xK [0, 1, 2] [(3, .d (.ptr [.list 4 (t.uses.map encUse), .list 5 (t.grants.map encGrant), .list 3 (t.asks.map encAsk)])), (4, .d (.ptr [I a1.nodes, I a1.data])), (5, .d (.ptr (encGrant a2).cells)), (6, .own 0 0), (9, .own 1 0), (10, .d (I i6)), (11, .d (I 0))] (σ' := [.cells [.d (.lit (.slice none 0 0)), .d (.lit (.slice none 0 0)), .d (.lit (.slice none 0 0))], .cells [.d (.list 4 (t.uses.map encUse)), .osl 2 p5.length, .d (.list 3 (v3.map encAsk))], .arr 59 5 (p5.map encGrant)]) (.cons rfl (.cells (.cons (.h rfl rfl) (.cons (.h rfl rfl) (.cons (.h rfl rfl) .nil)))) (.cons rfl (.cells (.cons (.h rfl rfl) (.cons (.h rfl rfl) (.cons (.h rfl rfl) .nil)))) (.cons rfl (.arr (by first | rfl | (simp <;> rfl))) .nil))) (xh5 (xh2 trivial)) ?_
     refine vcl_lenS 3 rfl (.ptr 1 rfl .here) (fun hlen => ?_)
     replace hlen := len_map hlen
     refine vcl_rec t.grants (fun (pre l : List Grant) (s : List Grant) => r12AddGrant_L2 i6 l s) (some v11) (fun pre s => envOf [(3, .d (.ptr [.list 4 (t.uses.map encUse), .list 5 (t.grants.map encGrant), .list 3 (t.asks.map encAsk)])), (4, .d (.ptr [I a1.nodes, I a1.data])), (5, .d (.ptr (encGrant a2).cells)), (6, .own 0 0), (9, .own 1 0), (10, .d (I i6)), (11, .d (I (pre.length : Int)))]) (fun pre s => [.cells [.d (.lit (.slice none 0 0)), .d (.lit (.slice none 0 0)), .d (.lit (.slice none 0 0))], .cells [.d (.list 4 (t.uses.map encUse)), .osl 2 s.length, .d (.list 3 (v3.map encAsk))], .arr 59 5 (s.map encGrant)]) ?step2 ?done2 p5 hv11
     case step2 =>
      rintro pre x10 l p8 hpre hlt h ih
      have hprex10 := hpre
      replace h : r12AddGrant_L2 i6 (x10 :: l) p8 = some v11 := h
      show VCL _ _ _ _ _ (envOf _) (_ :: _)
      obtain ⟨i9, hi⟩ : ∃ i : Int, i = (pre.length : Int) := ⟨_, rfl⟩
      have hix10 := hi
      rw [← hi]
      rw [r12AddGrant_L2] at h
      refine vcl_unroll ?_
      refine vc_seq ?_
      refine xsr ?_
      iterate 3 refine xp ?_
      refine xl ?_
      refine xp ?_
      refine xq ?_
      refine vc_cond rfl (fun _ => ?_) (fun hf => absurd hf (by simp; omega))
      refine vc_skip ?_
      refine vc_seq ?_
      refine vc_block ?_
      refine xsr ?_
      iterate 3 refine xp ?_
      refine ri rfl rfl rfl rfl rfl rfl rfl (by omega) (by rw [hix10]; exact idxp hprex10) ?_
      iterate 5 refine xp ?_
      refine xq ?_
      obtain ⟨v12, hv12, h⟩ := bindO h
      refine vc_midQ [(3, .d (.ptr [.list 4 (t.uses.map encUse), .list 5 (t.grants.map encGrant), .list 3 (t.asks.map encAsk)])), (4, .d (.ptr [I a1.nodes, I a1.data])), (5, .d (.ptr (encGrant a2).cells)), (6, .own 0 0), (9, .own 1 0), (10, .d (I i6)), (11, .d (I i9))] [.cells [.d (.lit (.slice none 0 0)), .d (.lit (.slice none 0 0)), .d (.lit (.slice none 0 0))], .cells [.d (.list 4 (t.uses.map encUse)), .osl 2 v12.length, .d (.list 3 (v3.map encAsk))], .arr 59 5 (v12.map encGrant)] ?_ ?_
      ·replace h := hv12; clear hv12
       cases c13 : (x10.cell.slot == i6) with
       | true =>
        have h := cT c13 h
        refine vc_condT rfl ?_
        refine xd ?_
        refine xp ?_
        refine xR ?_
        iterate 3 refine xp ?_
        refine ri rfl rfl rfl rfl rfl rfl rfl (by omega) (by rw [hix10]; exact idxp hprex10) ?_
        refine xp ?_
        refine xb ?_
        obtain ⟨g14, h⟩ := gd h; replace g14 := dT g14
        refine rap rfl rfl rfl rfl rfl rfl rfl rfl .list rfl rfl rfl rfl (by simp) (by simp; omega) (by simp; omega) ?_
        refine xp ?_
        refine xw ?_
        refine xq ?_
        cases h
        exact xm [0, 1, 2] ((.cons rfl (.cells (.cons (.h rfl rfl) (.cons (.h rfl rfl) (.cons (.h rfl rfl) .nil)))) (.cons rfl (.cells (.cons (.h rfl rfl) (.cons (.h (oslE rfl (by first | rfl | (simp <;> rfl))) rfl) (.cons (.h rfl rfl) .nil)))) (.cons rfl (.arr (by first | rfl | (simp <;> rfl))) .nil)))) (xh5 (xh2 trivial))
       | false =>
        have h := cF c13 h
        refine vc_condF rfl ?_
        refine vc_skip ?_
        cases h
        exact xm [0, 1, 2] ((.cons rfl (.cells (.cons (.h rfl rfl) (.cons (.h rfl rfl) (.cons (.h rfl rfl) .nil)))) (.cons rfl (.cells (.cons (.h rfl rfl) (.cons (.h (oslE rfl (by first | rfl | (simp <;> rfl))) rfl) (.cons (.h rfl rfl) .nil)))) (.cons rfl (.arr (by first | rfl | (simp <;> rfl))) .nil)))) (xh5 (xh2 trivial))
      ·refine xr ?_
       iterate 3 refine xp ?_
       refine xq ?_
       exact xv [0, 1, 2] (ih v12 h) (.cons rfl (.cells (.cons (.h rfl rfl) (.cons (.h rfl rfl) (.cons (.h rfl rfl) .nil)))) (.cons rfl (.cells (.cons (.h rfl rfl) (.cons (.h rfl rfl) (.cons (.h rfl rfl) .nil)))) (.cons rfl (.arr (by first | rfl | (simp <;> rfl))) .nil))) (xh5 (xh1 ⟨.e rfl (cntI hi hlt hlen), trivial⟩))
     case done2 =>
      rintro p8 h
      replace h : r12AddGrant_L2 i6 [] p8 = some v11 := h
      rw [r12AddGrant_L2] at h
      show VCL _ _ _ _ _ (envOf _) (_ :: _)
      refine vcl_unroll ?_
      refine vc_seq ?_
      refine xsr ?_
      iterate 3 refine xp ?_
      refine xl ?_
      refine xp ?_
      refine xq ?_
      refine vc_cond rfl (fun ht => absurd ht (by simp; try omega)) (fun _ => ?_)
      refine vc_exit ?_
      cases h
      exact xm [0, 1, 2] (.cons rfl (.cells (.cons (.h rfl rfl) (.cons (.h rfl rfl) (.cons (.h rfl rfl) .nil)))) (.cons rfl (.cells (.cons (.h rfl rfl) (.cons (.h rfl rfl) (.cons (.h rfl rfl) .nil)))) (.cons rfl (.arr (by first | rfl | (simp <;> rfl))) .nil))) (xh5 (xh1 trivial))
    ·have h := hLv11
     refine xsr ?_
     iterate 5 refine xp ?_
     refine xq ?_
     obtain ⟨v15, hv15, h⟩ := bindO h
     refine vc_midQ [(3, .d (.ptr [.list 4 (t.uses.map encUse), .list 5 (t.grants.map encGrant), .list 3 (t.asks.map encAsk)])), (4, .d (.ptr [I a1.nodes, I a1.data])), (5, .d (.ptr (encGrant a2).cells)), (6, .own 0 0), (9, .own 1 0), (10, .d (I i6))] [.cells [.d (.lit (.slice none 0 0)), .d (.lit (.slice none 0 0)), .d (.lit (.slice none 0 0))], .cells [.d (.list 4 (t.uses.map encUse)), .osl 2 v15.length, .d (.list 3 (v3.map encAsk))], .arr 59 5 (v15.map encGrant)] ?_ ?_
     ·replace h := hv15; clear hv15
      cases c16 : (a2.cell.slot == i6) with
      | true =>
       have h := cT c16 h
       refine vc_condT rfl ?_
       refine xr ?_
       refine xp ?_
       refine xR ?_
       refine xp ?_
       refine xb ?_
       obtain ⟨g17, h⟩ := gd h; replace g17 := dT g17
       refine rap rfl rfl rfl rfl rfl rfl rfl rfl .list rfl rfl rfl rfl (by simp) (by simp; omega) (by simp; omega) ?_
       refine xp ?_
       refine xw ?_
       refine xq ?_
       cases h
       exact xm [0, 1, 2] ((.cons rfl (.cells (.cons (.h rfl rfl) (.cons (.h rfl rfl) (.cons (.h rfl rfl) .nil)))) (.cons rfl (.cells (.cons (.h rfl rfl) (.cons (.h (oslE rfl (by first | rfl | (simp <;> rfl))) rfl) (.cons (.h rfl rfl) .nil)))) (.cons rfl (.arr (by first | rfl | (simp <;> rfl))) .nil)))) (xh5 (xh1 trivial))
      | false =>
       have h := cF c16 h
       refine vc_condF rfl ?_
       refine vc_skip ?_
       cases h
       exact xm [0, 1, 2] ((.cons rfl (.cells (.cons (.h rfl rfl) (.cons (.h rfl rfl) (.cons (.h rfl rfl) .nil)))) (.cons rfl (.cells (.cons (.h rfl rfl) (.cons (.h (oslE rfl (by first | rfl | (simp <;> rfl))) rfl) (.cons (.h rfl rfl) .nil)))) (.cons rfl (.arr (by first | rfl | (simp <;> rfl))) .nil)))) (xh5 (xh1 trivial))
     ·refine xr ?_
      iterate 3 refine xp ?_
      refine xq ?_
      exact xv [0, 1, 2] (ih v15 h) (.cons rfl (.cells (.cons (.h rfl rfl) (.cons (.h rfl rfl) (.cons (.h rfl rfl) .nil)))) (.cons rfl (.cells (.cons (.h rfl rfl) (.cons (.h rfl rfl) (.cons (.h rfl rfl) .nil)))) (.cons rfl (.arr (by first | rfl | (simp <;> rfl))) .nil))) (xh5 ⟨.e rfl (numD h0 h1 hn), trivial⟩)
   case done1 =>
    rintro i6 p5 h0 h1 h
    replace h : r12AddGrant_L1 t a2 0 i6 p5 = some v7 := h
    rw [r12AddGrant_L1] at h
    show VCL _ _ _ _ _ (envOf _) (_ :: _)
    refine vcl_unroll ?_
    refine vc_seq ?_
    refine xsr ?_
    iterate 4 refine xp ?_
    refine xq ?_
    refine vc_cond rfl (fun ht => absurd ht (by simp; try omega)) (fun _ => ?_)
    refine vc_exit ?_
    cases h
    exact xm [0, 1, 2] (.cons rfl (.cells (.cons (.h rfl rfl) (.cons (.h rfl rfl) (.cons (.h rfl rfl) .nil)))) (.cons rfl (.cells (.cons (.h rfl rfl) (.cons (.h rfl rfl) (.cons (.h rfl rfl) .nil)))) (.cons rfl (.arr (by first | rfl | (simp <;> rfl))) .nil))) (xh2 trivial)
  ·have h := hLv7
   refine vc_seq ?_
   refine xk [0, 1] [(6, .own 0 0), (9, .own 1 0)] (σ' := [.cells [.d (.lit (.slice none 0 0)), .d (.lit (.slice none 0 0)), .d (.lit (.slice none 0 0))], .cells [.d (.list 4 (t.uses.map encUse)), .d (.list 5 (v7.map encGrant)), .d (.list 3 (v3.map encAsk))]]) (.cons rfl (.cells (.cons (.h rfl rfl) (.cons (.h rfl rfl) (.cons (.h rfl rfl) .nil)))) (.cons rfl (.cells (.cons (.h rfl rfl) (.cons (.z (.osl rfl (by simp)) .refl) (.cons (.h rfl rfl) .nil)))) .nil)) (xh2 trivial) ?_
   refine xr ?_
   refine xR ?_
   refine xw ?_
   refine xp ?_
   refine xq ?_
   replace h := Option.some.inj h
   refine vc_ret ⟨.inr rfl, [encTable ⟨t.uses, v7, v3⟩, I 0], (.cons rfl ⟨_, .d, .refl⟩ (.cons rfl ⟨_, .d, .refl⟩ .nil)), ?_⟩
   first | (rw [← h]; done) | (rw [← h]; rfl) | (rw [← h]; simp)
def r12AddUse_L2 (i6 : Int) : List Use → (List Use) → Option (List Use)
 | [], p8 => some p8
 | x10 :: l, p8 => Option.bind (cond (x10.cell.slot == i6) (cond (decide (p8.length + 1 ≤ 4294967296)) (some (p8 ++ [x10])) none) (some p8)) fun v12 => r12AddUse_L2 i6 l v12
def r12AddUse_L1 (t : Table) (a2 : Use) : Nat → Int → (List Use) → Option (List Use)
 | 0, i6, p5 => some p5
 | k + 1, i6, p5 => Option.bind (r12AddUse_L2 i6 t.uses p5) fun v11 => Option.bind (cond (a2.cell.slot == i6) (cond (decide (v11.length + 1 ≤ 4294967296)) (some (v11 ++ [a2])) none) (some v11)) fun v15 => r12AddUse_L1 t a2 k (i6 + 1) v15
def r12AddUse (t : Table) (a1 : Layout) (a2 : Use) : Option (Table × Int) := Option.bind (r12refused t a1 a2.cell.slot (r12Use a2 a1)) fun v1 => cond (v1 != 0) (some (⟨[], [], []⟩, v1)) (Option.bind (r12unasked t.asks a2.cell.slot) fun v3 => cond (decide (0 + t.grants.length ≤ 4294967296)) (cond (decide (a1.data ≤ 9223372036854775807)) (Option.bind (r12AddUse_L1 t a2 (a1.data - 0).toNat 0 []) fun v7 => some (⟨v7, t.grants, v3⟩, 0)) none) none)
theorem r12AddUse_ok (t : Table) (a1 : Layout) (a2 : Use) (r : Table × Int) (h : r12AddUse t a1 a2 = some r) : PCalls Tryz.prog 68 [encTable t, encLayout a1, encUse a2] (.tuple [encTable r.1, I r.2]) := by
 unfold r12AddUse at h
 refine xe 82 Tryz.func68 ?_
 refine xsr ?_
 refine xa ?_
 refine xa ?_
 refine xa ?_
 refine xa ?_
 refine xp ?_
 refine xq ?_
 refine vc_seq ?_
 refine xk [3] [(3, .d (.ptr [.list 4 (t.uses.map encUse), .list 5 (t.grants.map encGrant), .list 3 (t.asks.map encAsk)])), (4, .d (.ptr [I a1.nodes, I a1.data])), (5, .d (.ptr (encUse a2).cells)), (6, .own 0 0)] (σ' := [.cells [.d (.lit (.slice none 0 0)), .d (.lit (.slice none 0 0)), .d (.lit (.slice none 0 0))]]) (.cons rfl (.cells (.cons (.h rfl rfl) (.cons (.h rfl rfl) (.cons (.h rfl rfl) .nil)))) .nil) ⟨.z (.own' rfl (.cons .d (.cons .d (.cons .d .nil)))) .refl, ⟨.z (.own' rfl (.cons .d (.cons .d .nil))) .refl, ⟨.z (.own' rfl (.cons .d (.cons .d (.cons .d (.cons .d .nil))))) .refl, (xh1 trivial)⟩⟩⟩ ?_
 refine xd ?_
 iterate 7 refine xp ?_
 refine xc (r12Use_ok a2 a1 _ rfl) ?_
 obtain ⟨v1, hv1, h⟩ := bindO h
 refine xc (r12refused_ok t a1 a2.cell.slot (r12Use a2 a1) _ hv1) ?_
 refine xp ?_
 refine xq ?_
 refine vc_seq ?_
 refine xsr ?_
 iterate 2 refine xp ?_
 refine xq ?_
 cases c2 : (v1 != 0) with
 | true =>
  have h := cT c2 h
  refine vc_condT rfl ?_
  refine xsr ?_
  iterate 2 refine xp ?_
  refine xw ?_
  refine xp ?_
  refine xq ?_
  replace h := Option.some.inj h
  refine vc_ret ⟨.inr rfl, [encTable ⟨[], [], []⟩, I v1], (.cons rfl ⟨_, .d, (.agg' (.cons .nil (.cons .nil (.cons .nil .nil))))⟩ (.cons rfl ⟨_, .d, .refl⟩ .nil)), ?_⟩
  first | (rw [← h]; done) | (rw [← h]; rfl) | (rw [← h]; simp)
 | false =>
  have h := cF c2 h
  refine vc_condF rfl ?_
  refine vc_skip ?_
  refine xsr ?_
  iterate 5 refine xp ?_
  obtain ⟨v3, hv3, h⟩ := bindO h
  refine xc (r12unasked_ok t.asks a2.cell.slot _ hv3) ?_
  refine xp ?_
  refine xa ?_
  refine xw ?_
  refine xq ?_
  refine vc_seq ?_
  refine VC.weak (weak_ownNilC 1 1 59 5 rfl rfl rfl rfl) ?_
  refine xr ?_
  refine xp ?_
  refine xR ?_
  iterate 2 refine xp ?_
  obtain ⟨g4, h⟩ := gd h; replace g4 := dT g4
  refine rap rfl rfl rfl rfl rfl rfl rfl rfl .list rfl rfl rfl rfl (by simp) (by simp; omega) (by simp; omega) ?_
  refine xp ?_
  refine xw ?_
  refine xq ?_
  refine vc_seq ?_
  refine vc_seq ?_
  refine xk [0, 1] [(3, .d (.ptr [.list 4 (t.uses.map encUse), .list 5 (t.grants.map encGrant), .list 3 (t.asks.map encAsk)])), (4, .d (.ptr [I a1.nodes, I a1.data])), (5, .d (.ptr (encUse a2).cells)), (6, .own 0 0), (9, .own 1 0)] (σ' := [.cells [.d (.lit (.slice none 0 0)), .d (.lit (.slice none 0 0)), .d (.lit (.slice none 0 0))], .cells [.d (.lit (.slice none 0 0)), .d (.list 5 (t.grants.map encGrant)), .d (.list 3 (v3.map encAsk))]]) (.cons rfl (.cells (.cons (.h rfl rfl) (.cons (.h rfl rfl) (.cons (.h rfl rfl) .nil)))) (.cons rfl (.cells (.cons (.h rfl rfl) (.cons (.z (.osl rfl (by simp)) .refl) (.cons (.h rfl rfl) .nil)))) .nil)) (xh5 trivial) ?_
  refine xr ?_
  refine xp ?_
  refine xq ?_
  refine VC.weak (weak_ownNilC 1 0 61 4 rfl rfl rfl rfl) ?_
  obtain ⟨hn, h⟩ := gd h; replace hn := dT hn
  obtain ⟨v7, hv7, hLv7⟩ := bindO h
  refine vc_midQ [(6, .own 0 0), (9, .own 1 0)] [.cells [.d (.lit (.slice none 0 0)), .d (.lit (.slice none 0 0)), .d (.lit (.slice none 0 0))], .cells [.osl 2 v7.length, .d (.list 5 (t.grants.map encGrant)), .d (.list 3 (v3.map encAsk))], .arr 61 4 (v7.map encUse)] ?_ ?_
  ·refine vc_block ?_
   refine vc_loop ?_
   refine xK [0, 1, 2] [(3, .d (.ptr [.list 4 (t.uses.map encUse), .list 5 (t.grants.map encGrant), .list 3 (t.asks.map encAsk)])), (4, .d (.ptr [I a1.nodes, I a1.data])), (5, .d (.ptr (encUse a2).cells)), (6, .own 0 0), (9, .own 1 0), (10, .d (I 0))] (σ' := [.cells [.d (.lit (.slice none 0 0)), .d (.lit (.slice none 0 0)), .d (.lit (.slice none 0 0))], .cells [.osl 2 0, .d (.list 5 (t.grants.map encGrant)), .d (.list 3 (v3.map encAsk))], .arr 61 4 ([].map encUse)]) (.cons rfl (.cells (.cons (.h rfl rfl) (.cons (.h rfl rfl) (.cons (.h rfl rfl) .nil)))) (.cons rfl (.cells (.cons (.h rfl rfl) (.cons (.h rfl rfl) (.cons (.h rfl rfl) .nil)))) (.cons rfl (.arr (by first | rfl | (simp <;> rfl))) .nil))) (xh5 (xh1 trivial)) ?_
   refine vcl_num a1.data (fun (k : Nat) (i : Int) (s : List Use) => r12AddUse_L1 t a2 k i s) (some v7) (fun i s => envOf [(3, .d (.ptr [.list 4 (t.uses.map encUse), .list 5 (t.grants.map encGrant), .list 3 (t.asks.map encAsk)])), (4, .d (.ptr [I a1.nodes, I a1.data])), (5, .d (.ptr (encUse a2).cells)), (6, .own 0 0), (9, .own 1 0), (10, .d (I i))]) (fun i s => [.cells [.d (.lit (.slice none 0 0)), .d (.lit (.slice none 0 0)), .d (.lit (.slice none 0 0))], .cells [.osl 2 s.length, .d (.list 5 (t.grants.map encGrant)), .d (.list 3 (v3.map encAsk))], .arr 61 4 (s.map encUse)]) ?step1 ?done1 0 [] (by omega) hv7
   case step1 =>
    rintro k i6 p5 h0 h1 h ih
    replace h : r12AddUse_L1 t a2 (k + 1) i6 p5 = some v7 := h
    rw [r12AddUse_L1] at h
    show VCL _ _ _ _ _ (envOf _) (_ :: _)
    refine vcl_unroll ?_
    refine vc_seq ?_
    refine xsr ?_
    iterate 4 refine xp ?_
    refine xq ?_
    refine vc_cond rfl (fun _ => ?_) (fun hf => absurd hf (by simp; omega))
    refine vc_skip ?_
    refine vc_seq ?_
    refine vc_block ?_
    refine vc_seq ?_
    refine xsr ?_
    refine xp ?_
    refine xq ?_
    obtain ⟨v11, hv11, hLv11⟩ := bindO h
    refine vc_midQ [(3, .d (.ptr [.list 4 (t.uses.map encUse), .list 5 (t.grants.map encGrant), .list 3 (t.asks.map encAsk)])), (4, .d (.ptr [I a1.nodes, I a1.data])), (5, .d (.ptr (encUse a2).cells)), (6, .own 0 0), (9, .own 1 0), (10, .d (I i6))] [.cells [.d (.lit (.slice none 0 0)), .d (.lit (.slice none 0 0)), .d (.lit (.slice none 0 0))], .cells [.osl 2 v11.length, .d (.list 5 (t.grants.map encGrant)), .d (.list 3 (v3.map encAsk))], .arr 61 4 (v11.map encUse)] ?_ ?_
    ·refine vc_block ?_
     refine vc_loop ?_
     refine xK [0, 1, 2] [(3, .d (.ptr [.list 4 (t.uses.map encUse), .list 5 (t.grants.map encGrant), .list 3 (t.asks.map encAsk)])), (4, .d (.ptr [I a1.nodes, I a1.data])), (5, .d (.ptr (encUse a2).cells)), (6, .own 0 0), (9, .own 1 0), (10, .d (I i6)), (11, .d (I 0))] (σ' := [.cells [.d (.lit (.slice none 0 0)), .d (.lit (.slice none 0 0)), .d (.lit (.slice none 0 0))], .cells [.osl 2 p5.length, .d (.list 5 (t.grants.map encGrant)), .d (.list 3 (v3.map encAsk))], .arr 61 4 (p5.map encUse)]) (.cons rfl (.cells (.cons (.h rfl rfl) (.cons (.h rfl rfl) (.cons (.h rfl rfl) .nil)))) (.cons rfl (.cells (.cons (.h rfl rfl) (.cons (.h rfl rfl) (.cons (.h rfl rfl) .nil)))) (.cons rfl (.arr (by first | rfl | (simp <;> rfl))) .nil))) (xh5 (xh2 trivial)) ?_
     refine vcl_lenS 3 rfl (.ptr 0 rfl .here) (fun hlen => ?_)
     replace hlen := len_map hlen
     refine vcl_rec t.uses (fun (pre l : List Use) (s : List Use) => r12AddUse_L2 i6 l s) (some v11) (fun pre s => envOf [(3, .d (.ptr [.list 4 (t.uses.map encUse), .list 5 (t.grants.map encGrant), .list 3 (t.asks.map encAsk)])), (4, .d (.ptr [I a1.nodes, I a1.data])), (5, .d (.ptr (encUse a2).cells)), (6, .own 0 0), (9, .own 1 0), (10, .d (I i6)), (11, .d (I (pre.length : Int)))]) (fun pre s => [.cells [.d (.lit (.slice none 0 0)), .d (.lit (.slice none 0 0)), .d (.lit (.slice none 0 0))], .cells [.osl 2 s.length, .d (.list 5 (t.grants.map encGrant)), .d (.list 3 (v3.map encAsk))], .arr 61 4 (s.map encUse)]) ?step2 ?done2 p5 hv11
     case step2 =>
      rintro pre x10 l p8 hpre hlt h ih
      have hprex10 := hpre
      replace h : r12AddUse_L2 i6 (x10 :: l) p8 = some v11 := h
      show VCL _ _ _ _ _ (envOf _) (_ :: _)
      obtain ⟨i9, hi⟩ : ∃ i : Int, i = (pre.length : Int) := ⟨_, rfl⟩
      have hix10 := hi
      rw [← hi]
      rw [r12AddUse_L2] at h
      refine vcl_unroll ?_
      refine vc_seq ?_
      refine xsr ?_
      iterate 3 refine xp ?_
      refine xl ?_
      refine xp ?_
      refine xq ?_
      refine vc_cond rfl (fun _ => ?_) (fun hf => absurd hf (by simp; omega))
      refine vc_skip ?_
      refine vc_seq ?_
      refine vc_block ?_
      refine xsr ?_
      iterate 3 refine xp ?_
      refine ri rfl rfl rfl rfl rfl rfl rfl (by omega) (by rw [hix10]; exact idxp hprex10) ?_
      iterate 5 refine xp ?_
      refine xq ?_
      obtain ⟨v12, hv12, h⟩ := bindO h
      refine vc_midQ [(3, .d (.ptr [.list 4 (t.uses.map encUse), .list 5 (t.grants.map encGrant), .list 3 (t.asks.map encAsk)])), (4, .d (.ptr [I a1.nodes, I a1.data])), (5, .d (.ptr (encUse a2).cells)), (6, .own 0 0), (9, .own 1 0), (10, .d (I i6)), (11, .d (I i9))] [.cells [.d (.lit (.slice none 0 0)), .d (.lit (.slice none 0 0)), .d (.lit (.slice none 0 0))], .cells [.osl 2 v12.length, .d (.list 5 (t.grants.map encGrant)), .d (.list 3 (v3.map encAsk))], .arr 61 4 (v12.map encUse)] ?_ ?_
      ·replace h := hv12; clear hv12
       cases c13 : (x10.cell.slot == i6) with
       | true =>
        have h := cT c13 h
        refine vc_condT rfl ?_
        refine xd ?_
        refine xp ?_
        refine xR ?_
        iterate 3 refine xp ?_
        refine ri rfl rfl rfl rfl rfl rfl rfl (by omega) (by rw [hix10]; exact idxp hprex10) ?_
        refine xp ?_
        refine xb ?_
        obtain ⟨g14, h⟩ := gd h; replace g14 := dT g14
        refine rap rfl rfl rfl rfl rfl rfl rfl rfl .list rfl rfl rfl rfl (by simp) (by simp; omega) (by simp; omega) ?_
        refine xp ?_
        refine xw ?_
        refine xq ?_
        cases h
        exact xm [0, 1, 2] ((.cons rfl (.cells (.cons (.h rfl rfl) (.cons (.h rfl rfl) (.cons (.h rfl rfl) .nil)))) (.cons rfl (.cells (.cons (.h (oslE rfl (by first | rfl | (simp <;> rfl))) rfl) (.cons (.h rfl rfl) (.cons (.h rfl rfl) .nil)))) (.cons rfl (.arr (by first | rfl | (simp <;> rfl))) .nil)))) (xh5 (xh2 trivial))
       | false =>
        have h := cF c13 h
        refine vc_condF rfl ?_
        refine vc_skip ?_
        cases h
        exact xm [0, 1, 2] ((.cons rfl (.cells (.cons (.h rfl rfl) (.cons (.h rfl rfl) (.cons (.h rfl rfl) .nil)))) (.cons rfl (.cells (.cons (.h (oslE rfl (by first | rfl | (simp <;> rfl))) rfl) (.cons (.h rfl rfl) (.cons (.h rfl rfl) .nil)))) (.cons rfl (.arr (by first | rfl | (simp <;> rfl))) .nil)))) (xh5 (xh2 trivial))
      ·refine xr ?_
       iterate 3 refine xp ?_
       refine xq ?_
       exact xv [0, 1, 2] (ih v12 h) (.cons rfl (.cells (.cons (.h rfl rfl) (.cons (.h rfl rfl) (.cons (.h rfl rfl) .nil)))) (.cons rfl (.cells (.cons (.h rfl rfl) (.cons (.h rfl rfl) (.cons (.h rfl rfl) .nil)))) (.cons rfl (.arr (by first | rfl | (simp <;> rfl))) .nil))) (xh5 (xh1 ⟨.e rfl (cntI hi hlt hlen), trivial⟩))
     case done2 =>
      rintro p8 h
      replace h : r12AddUse_L2 i6 [] p8 = some v11 := h
      rw [r12AddUse_L2] at h
      show VCL _ _ _ _ _ (envOf _) (_ :: _)
      refine vcl_unroll ?_
      refine vc_seq ?_
      refine xsr ?_
      iterate 3 refine xp ?_
      refine xl ?_
      refine xp ?_
      refine xq ?_
      refine vc_cond rfl (fun ht => absurd ht (by simp; try omega)) (fun _ => ?_)
      refine vc_exit ?_
      cases h
      exact xm [0, 1, 2] (.cons rfl (.cells (.cons (.h rfl rfl) (.cons (.h rfl rfl) (.cons (.h rfl rfl) .nil)))) (.cons rfl (.cells (.cons (.h rfl rfl) (.cons (.h rfl rfl) (.cons (.h rfl rfl) .nil)))) (.cons rfl (.arr (by first | rfl | (simp <;> rfl))) .nil))) (xh5 (xh1 trivial))
    ·have h := hLv11
     refine xsr ?_
     iterate 5 refine xp ?_
     refine xq ?_
     obtain ⟨v15, hv15, h⟩ := bindO h
     refine vc_midQ [(3, .d (.ptr [.list 4 (t.uses.map encUse), .list 5 (t.grants.map encGrant), .list 3 (t.asks.map encAsk)])), (4, .d (.ptr [I a1.nodes, I a1.data])), (5, .d (.ptr (encUse a2).cells)), (6, .own 0 0), (9, .own 1 0), (10, .d (I i6))] [.cells [.d (.lit (.slice none 0 0)), .d (.lit (.slice none 0 0)), .d (.lit (.slice none 0 0))], .cells [.osl 2 v15.length, .d (.list 5 (t.grants.map encGrant)), .d (.list 3 (v3.map encAsk))], .arr 61 4 (v15.map encUse)] ?_ ?_
     ·replace h := hv15; clear hv15
      cases c16 : (a2.cell.slot == i6) with
      | true =>
       have h := cT c16 h
       refine vc_condT rfl ?_
       refine xr ?_
       refine xp ?_
       refine xR ?_
       refine xp ?_
       refine xb ?_
       obtain ⟨g17, h⟩ := gd h; replace g17 := dT g17
       refine rap rfl rfl rfl rfl rfl rfl rfl rfl .list rfl rfl rfl rfl (by simp) (by simp; omega) (by simp; omega) ?_
       refine xp ?_
       refine xw ?_
       refine xq ?_
       cases h
       exact xm [0, 1, 2] ((.cons rfl (.cells (.cons (.h rfl rfl) (.cons (.h rfl rfl) (.cons (.h rfl rfl) .nil)))) (.cons rfl (.cells (.cons (.h (oslE rfl (by first | rfl | (simp <;> rfl))) rfl) (.cons (.h rfl rfl) (.cons (.h rfl rfl) .nil)))) (.cons rfl (.arr (by first | rfl | (simp <;> rfl))) .nil)))) (xh5 (xh1 trivial))
      | false =>
       have h := cF c16 h
       refine vc_condF rfl ?_
       refine vc_skip ?_
       cases h
       exact xm [0, 1, 2] ((.cons rfl (.cells (.cons (.h rfl rfl) (.cons (.h rfl rfl) (.cons (.h rfl rfl) .nil)))) (.cons rfl (.cells (.cons (.h (oslE rfl (by first | rfl | (simp <;> rfl))) rfl) (.cons (.h rfl rfl) (.cons (.h rfl rfl) .nil)))) (.cons rfl (.arr (by first | rfl | (simp <;> rfl))) .nil)))) (xh5 (xh1 trivial))
     ·refine xr ?_
      iterate 3 refine xp ?_
      refine xq ?_
      exact xv [0, 1, 2] (ih v15 h) (.cons rfl (.cells (.cons (.h rfl rfl) (.cons (.h rfl rfl) (.cons (.h rfl rfl) .nil)))) (.cons rfl (.cells (.cons (.h rfl rfl) (.cons (.h rfl rfl) (.cons (.h rfl rfl) .nil)))) (.cons rfl (.arr (by first | rfl | (simp <;> rfl))) .nil))) (xh5 ⟨.e rfl (numD h0 h1 hn), trivial⟩)
   case done1 =>
    rintro i6 p5 h0 h1 h
    replace h : r12AddUse_L1 t a2 0 i6 p5 = some v7 := h
    rw [r12AddUse_L1] at h
    show VCL _ _ _ _ _ (envOf _) (_ :: _)
    refine vcl_unroll ?_
    refine vc_seq ?_
    refine xsr ?_
    iterate 4 refine xp ?_
    refine xq ?_
    refine vc_cond rfl (fun ht => absurd ht (by simp; try omega)) (fun _ => ?_)
    refine vc_exit ?_
    cases h
    exact xm [0, 1, 2] (.cons rfl (.cells (.cons (.h rfl rfl) (.cons (.h rfl rfl) (.cons (.h rfl rfl) .nil)))) (.cons rfl (.cells (.cons (.h rfl rfl) (.cons (.h rfl rfl) (.cons (.h rfl rfl) .nil)))) (.cons rfl (.arr (by first | rfl | (simp <;> rfl))) .nil))) (xh2 trivial)
  ·have h := hLv7
   refine vc_seq ?_
   refine xk [0, 1] [(6, .own 0 0), (9, .own 1 0)] (σ' := [.cells [.d (.lit (.slice none 0 0)), .d (.lit (.slice none 0 0)), .d (.lit (.slice none 0 0))], .cells [.d (.list 4 (v7.map encUse)), .d (.list 5 (t.grants.map encGrant)), .d (.list 3 (v3.map encAsk))]]) (.cons rfl (.cells (.cons (.h rfl rfl) (.cons (.h rfl rfl) (.cons (.h rfl rfl) .nil)))) (.cons rfl (.cells (.cons (.z (.osl rfl (by simp)) .refl) (.cons (.h rfl rfl) (.cons (.h rfl rfl) .nil)))) .nil)) (xh2 trivial) ?_
   refine xr ?_
   refine xR ?_
   refine xw ?_
   refine xp ?_
   refine xq ?_
   replace h := Option.some.inj h
   refine vc_ret ⟨.inr rfl, [encTable ⟨v7, t.grants, v3⟩, I 0], (.cons rfl ⟨_, .d, .refl⟩ (.cons rfl ⟨_, .d, .refl⟩ .nil)), ?_⟩
   first | (rw [← h]; done) | (rw [← h]; rfl) | (rw [← h]; simp)
def r13Valid (a0 : Layout) (t : Table) (me : Int) (near : (List Near)) (frame : Int) : Option (Bool) := Option.bind (r12Valid t a0) fun v1 => cond (cond v1 ((decide (me < 0)) || ((decide (me ≥ a0.nodes)) || ((decide (frame < 0)) || (decide (frame > 999999992))))) true) (some false) (Option.bind (r13Neighbours a0 me near frame) fun v7 => some v7)
theorem r13Valid_ok (a0 : Layout) (t : Table) (me : Int) (near : (List Near)) (frame : Int) (r : Bool) (h : r13Valid a0 t me near frame = some r) : PCalls Tryz.prog 19 [encLayout a0, encTable t, I me, .list 31 (near.map encNear), I frame] (B r) := by
 unfold r13Valid at h
 refine xe 40 Tryz.func19 ?_
 refine xsr ?_
 refine xa ?_
 refine xa ?_
 refine xp ?_
 refine xq ?_
 refine vc_seq ?_
 refine xk [] [(2, .d (I me)), (3, .d (.list 31 (near.map encNear))), (4, .d (I frame)), (5, .d (.ptr [I a0.nodes, I a0.data])), (6, .d (.ptr [.list 4 (t.uses.map encUse), .list 5 (t.grants.map encGrant), .list 3 (t.asks.map encAsk)]))] .nil (xh3 ⟨.z (.own' rfl (.cons .d (.cons .d .nil))) .refl, ⟨.z (.own' rfl (.cons .d (.cons .d (.cons .d .nil)))) .refl, trivial⟩⟩) ?_
 refine xr ?_
 iterate 2 refine xp ?_
 obtain ⟨v1, hv1, h⟩ := bindO h
 refine xc (r12Valid_ok t a0 _ hv1) ?_
 refine xp ?_
 refine xq ?_
 refine vc_seq ?_
 refine vc_seq ?_
 refine vc_midQ [(2, .d (I me)), (3, .d (.list 31 (near.map encNear))), (4, .d (I frame)), (5, .d (.ptr [I a0.nodes, I a0.data])), (34, .d (B (cond v1 ((decide (me < 0)) || ((decide (me ≥ a0.nodes)) || ((decide (frame < 0)) || (decide (frame > 999999992))))) true)))] [] ?_ ?_
 ·refine xr ?_
  iterate 3 refine xp ?_
  cases c2 : v1 with
  | true =>
   iterate 4 refine xp ?_
   cases c3 : decide (me < 0) with
   | true =>
    iterate 4 refine xs ?_
    iterate 2 refine xp ?_
    iterate 2 refine xs ?_
    iterate 2 refine xp ?_
    iterate 2 refine xs ?_
    refine xp ?_
    refine xq ?_
    exact xm [] .nil (xh5 trivial)
   | false =>
    iterate 6 refine xp ?_
    cases c4 : decide (me ≥ a0.nodes) with
    | true =>
     iterate 2 refine xs ?_
     iterate 2 refine xp ?_
     iterate 2 refine xs ?_
     refine xp ?_
     refine xq ?_
     exact xm [] .nil (xh5 trivial)
    | false =>
     iterate 4 refine xp ?_
     cases c5 : decide (frame < 0) with
     | true =>
      iterate 2 refine xs ?_
      refine xp ?_
      refine xq ?_
      exact xm [] .nil (xh5 trivial)
     | false =>
      iterate 3 refine xp ?_
      refine xq ?_
      exact xm [] .nil (xh5 trivial)
  | false =>
   iterate 2 refine xs ?_
   iterate 2 refine xp ?_
   iterate 4 refine xs ?_
   iterate 2 refine xp ?_
   iterate 2 refine xs ?_
   iterate 2 refine xp ?_
   iterate 2 refine xs ?_
   refine xp ?_
   refine xq ?_
   exact xm [] .nil (xh5 trivial)
 ·cases c6 : (cond v1 ((decide (me < 0)) || ((decide (me ≥ a0.nodes)) || ((decide (frame < 0)) || (decide (frame > 999999992))))) true) with
  | true =>
   have h := cT c6 h
   refine vc_condT rfl ?_
   refine xsr ?_
   refine xp ?_
   refine xq ?_
   replace h := Option.some.inj h
   refine vc_ret ⟨.inr rfl, [B false], (.cons rfl ⟨_, .d, .refl⟩ .nil), ?_⟩
   first | (rw [← h]; done) | (rw [← h]; rfl) | (rw [← h]; simp)
  | false =>
   have h := cF c6 h
   refine vc_condF rfl ?_
   refine vc_skip ?_
   refine xsr ?_
   iterate 4 refine xp ?_
   obtain ⟨v7, hv7, h⟩ := bindO h
   refine xc (r13Neighbours_ok a0 me near frame _ hv7) ?_
   refine xp ?_
   refine xq ?_
   replace h := Option.some.inj h
   refine vc_ret ⟨.inr rfl, [B v7], (.cons rfl ⟨_, .d, .refl⟩ .nil), ?_⟩
   first | (rw [← h]; done) | (rw [← h]; rfl) | (rw [← h]; simp)
def r13Ask_L1 (a0 : Layout) (t : Table) (me : Int) (near : (List Near)) (peer : Int) (many : Int) : List Ask → (List Ask) → Option (List Ask)
 | [], p5 => some p5
 | x7 :: l, p5 => Option.bind (r13Possible a0 t me near peer x7.cell) fun v9 => Option.bind (cond (v9 && ((x7.peer == peer) && (decide ((p5.length : Int) < many)))) (cond (decide (p5.length + 1 ≤ 4294967296)) (some (p5 ++ [x7])) none) (some p5)) fun v12 => r13Ask_L1 a0 t me near peer many l v12
def r13Ask_L2 (a0 : Layout) (t : Table) (me : Int) (near : (List Near)) (peer : Int) (many : Int) (frame : Int) : Nat → Int → (List Ask) → Option (List Ask)
 | 0, i16, p15 => some p15
 | k + 1, i16, p15 => cond (decide ((IntKind.i64.wrap (16 * a0.data)) ≠ 0)) (cond (decide (a0.data ≠ 0)) (cond (decide (a0.data ≠ 0)) (Option.bind (r13Possible a0 t me near peer ⟨((IntKind.i64.wrap ((IntKind.i64.wrap ((IntKind.i64.wrap (17 * me)) + (IntKind.i64.wrap (5 * frame)))) + i16)).tmod (IntKind.i64.wrap (16 * a0.data))).tmod a0.data, IntKind.i64.wrap (((IntKind.i64.wrap ((IntKind.i64.wrap ((IntKind.i64.wrap (17 * me)) + (IntKind.i64.wrap (5 * frame)))) + i16)).tmod (IntKind.i64.wrap (16 * a0.data))).tdiv a0.data)⟩) fun v21 => Option.bind (cond (v21 && (cond (r13asked p15 (((IntKind.i64.wrap ((IntKind.i64.wrap ((IntKind.i64.wrap (17 * me)) + (IntKind.i64.wrap (5 * frame)))) + i16)).tmod (IntKind.i64.wrap (16 * a0.data))).tmod a0.data)) false (decide ((p15.length : Int) < many)))) (cond (decide (p15.length + 1 ≤ 4294967296)) (some (p15 ++ [⟨⟨((IntKind.i64.wrap ((IntKind.i64.wrap ((IntKind.i64.wrap (17 * me)) + (IntKind.i64.wrap (5 * frame)))) + i16)).tmod (IntKind.i64.wrap (16 * a0.data))).tmod a0.data, IntKind.i64.wrap (((IntKind.i64.wrap ((IntKind.i64.wrap ((IntKind.i64.wrap (17 * me)) + (IntKind.i64.wrap (5 * frame)))) + i16)).tmod (IntKind.i64.wrap (16 * a0.data))).tdiv a0.data)⟩, peer⟩])) none) (some p15)) fun v24 => r13Ask_L2 a0 t me near peer many frame k (i16 + 1) v24) none) none) none
def r13Ask (a0 : Layout) (t : Table) (me : Int) (near : (List Near)) (peer : Int) (many : Int) (frame : Int) : Option (Table) := Option.bind (r13Valid a0 t me near frame) fun v1 => cond (cond v1 ((decide (many < 0)) || (decide (many > 24))) true) (some t) (Option.bind (r13Ask_L1 a0 t me near peer many t.asks []) fun v8 => cond (decide (IntKind.i64.wrap (16 * a0.data) ≤ 9223372036854775807)) (Option.bind (r13Ask_L2 a0 t me near peer many frame ((IntKind.i64.wrap (16 * a0.data)) - 0).toNat 0 v8) fun v17 => Option.bind (r13sorted v17 a0.data) fun v27 => some ⟨t.uses, t.grants, v27⟩) none)
theorem r13Ask_ok (a0 : Layout) (t : Table) (me : Int) (near : (List Near)) (peer : Int) (many : Int) (frame : Int) (r : Table) (h : r13Ask a0 t me near peer many frame = some r) : PCalls Tryz.prog 16 [encLayout a0, encTable t, I me, .list 31 (near.map encNear), I peer, I many, I frame] (encTable r) := by
 unfold r13Ask at h
 refine xe 147 Tryz.func16 ?_
 refine xsr ?_
 refine xa ?_
 refine xa ?_
 refine xa ?_
 refine xq ?_
 refine vc_seq ?_
 refine xk [2] [(2, .d (I me)), (3, .d (.list 31 (near.map encNear))), (4, .d (I peer)), (5, .d (I many)), (6, .d (I frame)), (7, .d (.ptr [I a0.nodes, I a0.data])), (8, .d (.ptr [.list 4 (t.uses.map encUse), .list 5 (t.grants.map encGrant), .list 3 (t.asks.map encAsk)])), (14, .own 0 0)] (σ' := [.cells [.d (.lit (.slice none 0 0)), .d (.lit (.slice none 0 0)), .d (.lit (.slice none 0 0))]]) (.cons rfl (.cells (.cons (.h rfl rfl) (.cons (.h rfl rfl) (.cons (.h rfl rfl) .nil)))) .nil) (xh5 ⟨.z (.own' rfl (.cons .d (.cons .d .nil))) .refl, ⟨.z (.own' rfl (.cons .d (.cons .d (.cons .d .nil)))) .refl, (xh1 trivial)⟩⟩) ?_
 refine xr ?_
 iterate 5 refine xp ?_
 obtain ⟨v1, hv1, h⟩ := bindO h
 refine xc (r13Valid_ok a0 t me near frame _ hv1) ?_
 refine xp ?_
 refine xq ?_
 refine vc_seq ?_
 refine vc_seq ?_
 refine vc_midQ [(2, .d (I me)), (3, .d (.list 31 (near.map encNear))), (4, .d (I peer)), (5, .d (I many)), (6, .d (I frame)), (7, .d (.ptr [I a0.nodes, I a0.data])), (8, .d (.ptr [.list 4 (t.uses.map encUse), .list 5 (t.grants.map encGrant), .list 3 (t.asks.map encAsk)])), (14, .own 0 0), (38, .d (B (cond v1 ((decide (many < 0)) || (decide (many > 24))) true)))] [.cells [.d (.lit (.slice none 0 0)), .d (.lit (.slice none 0 0)), .d (.lit (.slice none 0 0))]] ?_ ?_
 ·refine xr ?_
  iterate 3 refine xp ?_
  cases c2 : v1 with
  | true =>
   iterate 4 refine xp ?_
   cases c3 : decide (many < 0) with
   | true =>
    iterate 2 refine xs ?_
    refine xp ?_
    refine xq ?_
    exact xm [0] ((.cons rfl (.cells (.cons (.h rfl rfl) (.cons (.h rfl rfl) (.cons (.h rfl rfl) .nil)))) .nil)) (xh5 (xh3 (xh1 trivial)))
   | false =>
    iterate 3 refine xp ?_
    refine xq ?_
    exact xm [0] ((.cons rfl (.cells (.cons (.h rfl rfl) (.cons (.h rfl rfl) (.cons (.h rfl rfl) .nil)))) .nil)) (xh5 (xh3 (xh1 trivial)))
  | false =>
   iterate 2 refine xs ?_
   iterate 2 refine xp ?_
   iterate 2 refine xs ?_
   refine xp ?_
   refine xq ?_
   exact xm [0] ((.cons rfl (.cells (.cons (.h rfl rfl) (.cons (.h rfl rfl) (.cons (.h rfl rfl) .nil)))) .nil)) (xh5 (xh3 (xh1 trivial)))
 ·cases c4 : (cond v1 ((decide (many < 0)) || (decide (many > 24))) true) with
  | true =>
   have h := cT c4 h
   refine vc_condT rfl ?_
   refine xsr ?_
   refine xp ?_
   refine xw ?_
   refine xq ?_
   replace h := Option.some.inj h
   refine vc_ret ⟨.inr rfl, [encTable t], (.cons rfl ⟨_, .d, .refl⟩ .nil), ?_⟩
   first | (rw [← h]; done) | (rw [← h]; rfl) | (rw [← h]; simp)
  | false =>
   have h := cF c4 h
   refine vc_condF rfl ?_
   refine vc_skip ?_
   refine xsr ?_
   refine xp ?_
   refine xq ?_
   refine vc_seq ?_
   refine xsr ?_
   refine xp ?_
   refine xq ?_
   refine VC.weak (weak_ownNil 16 63 3 rfl rfl) ?_
   obtain ⟨v8, hv8, hLv8⟩ := bindO h
   refine vc_midQ [(2, .d (I me)), (3, .d (.list 31 (near.map encNear))), (4, .d (I peer)), (5, .d (I many)), (6, .d (I frame)), (7, .d (.ptr [I a0.nodes, I a0.data])), (8, .d (.ptr [.list 4 (t.uses.map encUse), .list 5 (t.grants.map encGrant), .list 3 (t.asks.map encAsk)])), (14, .own 0 0), (16, .osl 1 v8.length)] [.cells [.d (.lit (.slice none 0 0)), .d (.lit (.slice none 0 0)), .d (.lit (.slice none 0 0))], .arr 63 3 (v8.map encAsk)] ?_ ?_
   ·refine vc_block ?_
    refine vc_loop ?_
    refine xK [0, 1] [(2, .d (I me)), (3, .d (.list 31 (near.map encNear))), (4, .d (I peer)), (5, .d (I many)), (6, .d (I frame)), (7, .d (.ptr [I a0.nodes, I a0.data])), (8, .d (.ptr [.list 4 (t.uses.map encUse), .list 5 (t.grants.map encGrant), .list 3 (t.asks.map encAsk)])), (14, .own 0 0), (16, .osl 1 0), (17, .d (I 0))] (σ' := [.cells [.d (.lit (.slice none 0 0)), .d (.lit (.slice none 0 0)), .d (.lit (.slice none 0 0))], .arr 63 3 ([].map encAsk)]) (.cons rfl (.cells (.cons (.h rfl rfl) (.cons (.h rfl rfl) (.cons (.h rfl rfl) .nil)))) (.cons rfl (.arr (by first | rfl | (simp <;> rfl))) .nil)) (xh5 (xh5 trivial)) ?_
    refine vcl_lenS 8 rfl (.ptr 2 rfl .here) (fun hlen => ?_)
    replace hlen := len_map hlen
    refine vcl_rec t.asks (fun (pre l : List Ask) (s : List Ask) => r13Ask_L1 a0 t me near peer many l s) (some v8) (fun pre s => envOf [(2, .d (I me)), (3, .d (.list 31 (near.map encNear))), (4, .d (I peer)), (5, .d (I many)), (6, .d (I frame)), (7, .d (.ptr [I a0.nodes, I a0.data])), (8, .d (.ptr [.list 4 (t.uses.map encUse), .list 5 (t.grants.map encGrant), .list 3 (t.asks.map encAsk)])), (14, .own 0 0), (16, .osl 1 s.length), (17, .d (I (pre.length : Int)))]) (fun pre s => [.cells [.d (.lit (.slice none 0 0)), .d (.lit (.slice none 0 0)), .d (.lit (.slice none 0 0))], .arr 63 3 (s.map encAsk)]) ?step1 ?done1 [] hv8
    case step1 =>
     rintro pre x7 l p5 hpre hlt h ih
     have hprex7 := hpre
     replace h : r13Ask_L1 a0 t me near peer many (x7 :: l) p5 = some v8 := h
     show VCL _ _ _ _ _ (envOf _) (_ :: _)
     obtain ⟨i6, hi⟩ : ∃ i : Int, i = (pre.length : Int) := ⟨_, rfl⟩
     have hix7 := hi
     rw [← hi]
     rw [r13Ask_L1] at h
     refine vcl_unroll ?_
     refine vc_seq ?_
     refine xsr ?_
     iterate 3 refine xp ?_
     refine xl ?_
     refine xp ?_
     refine xq ?_
     refine vc_cond rfl (fun _ => ?_) (fun hf => absurd hf (by simp; omega))
     refine vc_skip ?_
     refine vc_seq ?_
     refine vc_block ?_
     refine xsd ?_
     iterate 8 refine xp ?_
     refine ri rfl rfl rfl rfl rfl rfl rfl (by omega) (by rw [hix7]; exact idxp hprex7) ?_
     iterate 2 refine xp ?_
     obtain ⟨v9, hv9, h⟩ := bindO h
     refine xc (r13Possible_ok a0 t me near peer x7.cell _ hv9) ?_
     refine xp ?_
     refine xq ?_
     refine vc_seq ?_
     refine vc_midQ [(2, .d (I me)), (3, .d (.list 31 (near.map encNear))), (4, .d (I peer)), (5, .d (I many)), (6, .d (I frame)), (7, .d (.ptr [I a0.nodes, I a0.data])), (8, .d (.ptr [.list 4 (t.uses.map encUse), .list 5 (t.grants.map encGrant), .list 3 (t.asks.map encAsk)])), (14, .own 0 0), (16, .osl 1 p5.length), (17, .d (I i6)), (75, .d (B (v9 && ((x7.peer == peer) && (decide ((p5.length : Int) < many))))))] [.cells [.d (.lit (.slice none 0 0)), .d (.lit (.slice none 0 0)), .d (.lit (.slice none 0 0))], .arr 63 3 (p5.map encAsk)] ?_ ?_
     ·refine xr ?_
      iterate 2 refine xp ?_
      cases c10 : v9 with
      | true =>
       iterate 3 refine xp ?_
       refine ri rfl rfl rfl rfl rfl rfl rfl (by omega) (by rw [hix7]; exact idxp hprex7) ?_
       iterate 6 refine xp ?_
       cases c11 : (x7.peer == peer) with
       | true =>
        iterate 5 refine xp ?_
        refine xq ?_
        exact xm [0, 1] ((.cons rfl (.cells (.cons (.h rfl rfl) (.cons (.h rfl rfl) (.cons (.h rfl rfl) .nil)))) (.cons rfl (.arr (by first | rfl | (simp <;> rfl))) .nil))) (xh5 (xh5 (xh1 trivial)))
       | false =>
        iterate 4 refine xs ?_
        refine xp ?_
        refine xq ?_
        exact xm [0, 1] ((.cons rfl (.cells (.cons (.h rfl rfl) (.cons (.h rfl rfl) (.cons (.h rfl rfl) .nil)))) (.cons rfl (.arr (by first | rfl | (simp <;> rfl))) .nil))) (xh5 (xh5 (xh1 trivial)))
      | false =>
       iterate 8 refine xs ?_
       iterate 2 refine xp ?_
       iterate 4 refine xs ?_
       refine xp ?_
       refine xq ?_
       exact xm [0, 1] ((.cons rfl (.cells (.cons (.h rfl rfl) (.cons (.h rfl rfl) (.cons (.h rfl rfl) .nil)))) (.cons rfl (.arr (by first | rfl | (simp <;> rfl))) .nil))) (xh5 (xh5 (xh1 trivial)))
     ·obtain ⟨v12, hv12, h⟩ := bindO h
      refine vc_midQ [(2, .d (I me)), (3, .d (.list 31 (near.map encNear))), (4, .d (I peer)), (5, .d (I many)), (6, .d (I frame)), (7, .d (.ptr [I a0.nodes, I a0.data])), (8, .d (.ptr [.list 4 (t.uses.map encUse), .list 5 (t.grants.map encGrant), .list 3 (t.asks.map encAsk)])), (14, .own 0 0), (16, .osl 1 v12.length), (17, .d (I i6))] [.cells [.d (.lit (.slice none 0 0)), .d (.lit (.slice none 0 0)), .d (.lit (.slice none 0 0))], .arr 63 3 (v12.map encAsk)] ?_ ?_
      ·replace h := hv12; clear hv12
       cases c13 : (v9 && ((x7.peer == peer) && (decide ((p5.length : Int) < many)))) with
       | true =>
        have h := cT c13 h
        refine vc_condT rfl ?_
        refine xr ?_
        iterate 4 refine xp ?_
        refine ri rfl rfl rfl rfl rfl rfl rfl (by omega) (by rw [hix7]; exact idxp hprex7) ?_
        refine xp ?_
        refine xb ?_
        obtain ⟨g14, h⟩ := gd h; replace g14 := dT g14
        refine rap rfl rfl rfl rfl rfl rfl rfl rfl .list rfl rfl rfl rfl (by simp) (by simp; omega) (by simp; omega) ?_
        refine xp ?_
        refine xq ?_
        cases h
        exact xm [0, 1] ((.cons rfl (.cells (.cons (.h rfl rfl) (.cons (.h rfl rfl) (.cons (.h rfl rfl) .nil)))) (.cons rfl (.arr (by first | rfl | (simp <;> rfl))) .nil))) (xh5 (xh3 ⟨.h (oslE rfl (by first | rfl | (simp <;> rfl))) rfl, (xh1 trivial)⟩))
       | false =>
        have h := cF c13 h
        refine vc_condF rfl ?_
        refine vc_skip ?_
        cases h
        exact xm [0, 1] ((.cons rfl (.cells (.cons (.h rfl rfl) (.cons (.h rfl rfl) (.cons (.h rfl rfl) .nil)))) (.cons rfl (.arr (by first | rfl | (simp <;> rfl))) .nil))) (xh5 (xh3 ⟨.h (oslE rfl (by first | rfl | (simp <;> rfl))) rfl, (xh1 trivial)⟩))
      ·refine xr ?_
       iterate 3 refine xp ?_
       refine xq ?_
       exact xv [0, 1] (ih v12 h) (.cons rfl (.cells (.cons (.h rfl rfl) (.cons (.h rfl rfl) (.cons (.h rfl rfl) .nil)))) (.cons rfl (.arr (by first | rfl | (simp <;> rfl))) .nil)) (xh5 (xh3 (xh1 ⟨.e rfl (cntI hi hlt hlen), trivial⟩)))
    case done1 =>
     rintro p5 h
     replace h : r13Ask_L1 a0 t me near peer many [] p5 = some v8 := h
     rw [r13Ask_L1] at h
     show VCL _ _ _ _ _ (envOf _) (_ :: _)
     refine vcl_unroll ?_
     refine vc_seq ?_
     refine xsr ?_
     iterate 3 refine xp ?_
     refine xl ?_
     refine xp ?_
     refine xq ?_
     refine vc_cond rfl (fun ht => absurd ht (by simp; try omega)) (fun _ => ?_)
     refine vc_exit ?_
     cases h
     exact xm [0, 1] (.cons rfl (.cells (.cons (.h rfl rfl) (.cons (.h rfl rfl) (.cons (.h rfl rfl) .nil)))) (.cons rfl (.arr (by first | rfl | (simp <;> rfl))) .nil)) (xh5 (xh3 (xh1 trivial)))
   ·have h := hLv8
    refine vc_seq ?_
    refine xsr ?_
    refine xp ?_
    refine xq ?_
    obtain ⟨hn, h⟩ := gd h; replace hn := dT hn
    obtain ⟨v17, hv17, hLv17⟩ := bindO h
    refine vc_midQ [(7, .d (.ptr [I a0.nodes, I a0.data])), (8, .d (.ptr [.list 4 (t.uses.map encUse), .list 5 (t.grants.map encGrant), .list 3 (t.asks.map encAsk)])), (14, .own 0 0), (16, .osl 1 v17.length)] [.cells [.d (.lit (.slice none 0 0)), .d (.lit (.slice none 0 0)), .d (.lit (.slice none 0 0))], .arr 63 3 (v17.map encAsk)] ?_ ?_
    ·refine vc_block ?_
     refine vc_loop ?_
     refine xK [0, 1] [(2, .d (I me)), (3, .d (.list 31 (near.map encNear))), (4, .d (I peer)), (5, .d (I many)), (6, .d (I frame)), (7, .d (.ptr [I a0.nodes, I a0.data])), (8, .d (.ptr [.list 4 (t.uses.map encUse), .list 5 (t.grants.map encGrant), .list 3 (t.asks.map encAsk)])), (14, .own 0 0), (16, .osl 1 v8.length), (19, .d (I 0))] (σ' := [.cells [.d (.lit (.slice none 0 0)), .d (.lit (.slice none 0 0)), .d (.lit (.slice none 0 0))], .arr 63 3 (v8.map encAsk)]) (.cons rfl (.cells (.cons (.h rfl rfl) (.cons (.h rfl rfl) (.cons (.h rfl rfl) .nil)))) (.cons rfl (.arr (by first | rfl | (simp <;> rfl))) .nil)) (xh5 (xh5 trivial)) ?_
     refine vcl_num (IntKind.i64.wrap (16 * a0.data)) (fun (k : Nat) (i : Int) (s : List Ask) => r13Ask_L2 a0 t me near peer many frame k i s) (some v17) (fun i s => envOf [(2, .d (I me)), (3, .d (.list 31 (near.map encNear))), (4, .d (I peer)), (5, .d (I many)), (6, .d (I frame)), (7, .d (.ptr [I a0.nodes, I a0.data])), (8, .d (.ptr [.list 4 (t.uses.map encUse), .list 5 (t.grants.map encGrant), .list 3 (t.asks.map encAsk)])), (14, .own 0 0), (16, .osl 1 s.length), (19, .d (I i))]) (fun i s => [.cells [.d (.lit (.slice none 0 0)), .d (.lit (.slice none 0 0)), .d (.lit (.slice none 0 0))], .arr 63 3 (s.map encAsk)]) ?step2 ?done2 0 v8 (by omega) hv17
     case step2 =>
      rintro k i16 p15 h0 h1 h ih
      replace h : r13Ask_L2 a0 t me near peer many frame (k + 1) i16 p15 = some v17 := h
      rw [r13Ask_L2] at h
      show VCL _ _ _ _ _ (envOf _) (_ :: _)
      refine vcl_unroll ?_
      refine vc_seq ?_
      refine xsr ?_
      iterate 5 refine xp ?_
      refine xq ?_
      refine vc_cond rfl (fun _ => ?_) (fun hf => absurd hf (by simp; omega))
      refine vc_skip ?_
      refine vc_seq ?_
      refine vc_block ?_
      refine xsr ?_
      iterate 10 refine xp ?_
      obtain ⟨g18, h⟩ := gd h; replace g18 := dT g18
      refine rrem rfl rfl rfl rfl rfl rfl g18 ?_
      refine xp ?_
      refine xq ?_
      refine xsd ?_
      iterate 3 refine xp ?_
      obtain ⟨g19, h⟩ := gd h; replace g19 := dT g19
      refine rrem rfl rfl rfl rfl rfl rfl g19 ?_
      iterate 3 refine xp ?_
      obtain ⟨g20, h⟩ := gd h; replace g20 := dT g20
      refine rquo rfl rfl rfl rfl rfl rfl g20 ?_
      refine xp ?_
      refine xa ?_
      refine xw ?_
      refine xq ?_
      refine vc_seq ?_
      refine xk [0, 1] [(2, .d (I me)), (3, .d (.list 31 (near.map encNear))), (4, .d (I peer)), (5, .d (I many)), (6, .d (I frame)), (7, .d (.ptr [I a0.nodes, I a0.data])), (8, .d (.ptr [.list 4 (t.uses.map encUse), .list 5 (t.grants.map encGrant), .list 3 (t.asks.map encAsk)])), (14, .own 0 0), (16, .osl 1 p15.length), (19, .d (I i16)), (21, .d (.ptr [I (((IntKind.i64.wrap ((IntKind.i64.wrap ((IntKind.i64.wrap (17 * me)) + (IntKind.i64.wrap (5 * frame)))) + i16)).tmod (IntKind.i64.wrap (16 * a0.data))).tmod a0.data), I (IntKind.i64.wrap (((IntKind.i64.wrap ((IntKind.i64.wrap ((IntKind.i64.wrap (17 * me)) + (IntKind.i64.wrap (5 * frame)))) + i16)).tmod (IntKind.i64.wrap (16 * a0.data))).tdiv a0.data))]))] (σ' := [.cells [.d (.lit (.slice none 0 0)), .d (.lit (.slice none 0 0)), .d (.lit (.slice none 0 0))], .arr 63 3 (p15.map encAsk)]) (.cons rfl (.cells (.cons (.h rfl rfl) (.cons (.h rfl rfl) (.cons (.h rfl rfl) .nil)))) (.cons rfl (.arr (by first | rfl | (simp <;> rfl))) .nil)) (xh5 (xh5 ⟨.z (.own' rfl (.cons .d (.cons .d .nil))) .refl, trivial⟩)) ?_
      refine xr ?_
      iterate 6 refine xp ?_
      obtain ⟨v21, hv21, h⟩ := bindO h
      refine xc (r13Possible_ok a0 t me near peer ⟨((IntKind.i64.wrap ((IntKind.i64.wrap ((IntKind.i64.wrap (17 * me)) + (IntKind.i64.wrap (5 * frame)))) + i16)).tmod (IntKind.i64.wrap (16 * a0.data))).tmod a0.data, IntKind.i64.wrap (((IntKind.i64.wrap ((IntKind.i64.wrap ((IntKind.i64.wrap (17 * me)) + (IntKind.i64.wrap (5 * frame)))) + i16)).tmod (IntKind.i64.wrap (16 * a0.data))).tdiv a0.data)⟩ _ hv21) ?_
      refine xp ?_
      refine xq ?_
      refine vc_seq ?_
      refine vc_midQ [(2, .d (I me)), (3, .d (.list 31 (near.map encNear))), (4, .d (I peer)), (5, .d (I many)), (6, .d (I frame)), (7, .d (.ptr [I a0.nodes, I a0.data])), (8, .d (.ptr [.list 4 (t.uses.map encUse), .list 5 (t.grants.map encGrant), .list 3 (t.asks.map encAsk)])), (14, .own 0 0), (16, .osl 1 p15.length), (19, .d (I i16)), (21, .d (.ptr [I (((IntKind.i64.wrap ((IntKind.i64.wrap ((IntKind.i64.wrap (17 * me)) + (IntKind.i64.wrap (5 * frame)))) + i16)).tmod (IntKind.i64.wrap (16 * a0.data))).tmod a0.data), I (IntKind.i64.wrap (((IntKind.i64.wrap ((IntKind.i64.wrap ((IntKind.i64.wrap (17 * me)) + (IntKind.i64.wrap (5 * frame)))) + i16)).tmod (IntKind.i64.wrap (16 * a0.data))).tdiv a0.data))])), (131, .d (B (v21 && (cond (r13asked p15 (((IntKind.i64.wrap ((IntKind.i64.wrap ((IntKind.i64.wrap (17 * me)) + (IntKind.i64.wrap (5 * frame)))) + i16)).tmod (IntKind.i64.wrap (16 * a0.data))).tmod a0.data)) false (decide ((p15.length : Int) < many))))))] [.cells [.d (.lit (.slice none 0 0)), .d (.lit (.slice none 0 0)), .d (.lit (.slice none 0 0))], .arr 63 3 (p15.map encAsk)] ?_ ?_
      ·refine xr ?_
       iterate 2 refine xp ?_
       cases c22 : v21 with
       | true =>
        iterate 3 refine xp ?_
        refine rcr rfl rfl rfl rfl (by exact (.cons (.osl rfl (by simp)) (.cons .d .nil))) (r13asked_ok p15 (((IntKind.i64.wrap ((IntKind.i64.wrap ((IntKind.i64.wrap (17 * me)) + (IntKind.i64.wrap (5 * frame)))) + i16)).tmod (IntKind.i64.wrap (16 * a0.data))).tmod a0.data) _ rfl) rfl ?_
        iterate 3 refine xp ?_
        cases c23 : (r13asked p15 (((IntKind.i64.wrap ((IntKind.i64.wrap ((IntKind.i64.wrap (17 * me)) + (IntKind.i64.wrap (5 * frame)))) + i16)).tmod (IntKind.i64.wrap (16 * a0.data))).tmod a0.data)) with
        | true =>
         iterate 4 refine xs ?_
         refine xp ?_
         refine xq ?_
         exact xm [0, 1] ((.cons rfl (.cells (.cons (.h rfl rfl) (.cons (.h rfl rfl) (.cons (.h rfl rfl) .nil)))) (.cons rfl (.arr (by first | rfl | (simp <;> rfl))) .nil))) (xh5 (xh5 (xh2 trivial)))
        | false =>
         iterate 5 refine xp ?_
         refine xq ?_
         exact xm [0, 1] ((.cons rfl (.cells (.cons (.h rfl rfl) (.cons (.h rfl rfl) (.cons (.h rfl rfl) .nil)))) (.cons rfl (.arr (by first | rfl | (simp <;> rfl))) .nil))) (xh5 (xh5 (xh2 trivial)))
       | false =>
        iterate 5 refine xs ?_
        iterate 2 refine xp ?_
        iterate 4 refine xs ?_
        refine xp ?_
        refine xq ?_
        exact xm [0, 1] ((.cons rfl (.cells (.cons (.h rfl rfl) (.cons (.h rfl rfl) (.cons (.h rfl rfl) .nil)))) (.cons rfl (.arr (by first | rfl | (simp <;> rfl))) .nil))) (xh5 (xh5 (xh2 trivial)))
      ·obtain ⟨v24, hv24, h⟩ := bindO h
       refine vc_midQ [(2, .d (I me)), (3, .d (.list 31 (near.map encNear))), (4, .d (I peer)), (5, .d (I many)), (6, .d (I frame)), (7, .d (.ptr [I a0.nodes, I a0.data])), (8, .d (.ptr [.list 4 (t.uses.map encUse), .list 5 (t.grants.map encGrant), .list 3 (t.asks.map encAsk)])), (14, .own 0 0), (16, .osl 1 v24.length), (19, .d (I i16))] [.cells [.d (.lit (.slice none 0 0)), .d (.lit (.slice none 0 0)), .d (.lit (.slice none 0 0))], .arr 63 3 (v24.map encAsk)] ?_ ?_
       ·replace h := hv24; clear hv24
        cases c25 : (v21 && (cond (r13asked p15 (((IntKind.i64.wrap ((IntKind.i64.wrap ((IntKind.i64.wrap (17 * me)) + (IntKind.i64.wrap (5 * frame)))) + i16)).tmod (IntKind.i64.wrap (16 * a0.data))).tmod a0.data)) false (decide ((p15.length : Int) < many)))) with
        | true =>
         have h := cT c25 h
         refine vc_condT rfl ?_
         refine xr ?_
         iterate 4 refine xp ?_
         refine xb ?_
         obtain ⟨g26, h⟩ := gd h; replace g26 := dT g26
         refine rap rfl rfl rfl rfl rfl rfl rfl rfl .list rfl rfl rfl rfl (by simp) (by simp; omega) (by simp; omega) ?_
         refine xp ?_
         refine xq ?_
         cases h
         exact xm [0, 1] ((.cons rfl (.cells (.cons (.h rfl rfl) (.cons (.h rfl rfl) (.cons (.h rfl rfl) .nil)))) (.cons rfl (.arr (by first | rfl | (simp <;> rfl))) .nil))) (xh5 (xh3 ⟨.h (oslE rfl (by first | rfl | (simp <;> rfl))) rfl, (xh1 trivial)⟩))
        | false =>
         have h := cF c25 h
         refine vc_condF rfl ?_
         refine vc_skip ?_
         cases h
         exact xm [0, 1] ((.cons rfl (.cells (.cons (.h rfl rfl) (.cons (.h rfl rfl) (.cons (.h rfl rfl) .nil)))) (.cons rfl (.arr (by first | rfl | (simp <;> rfl))) .nil))) (xh5 (xh3 ⟨.h (oslE rfl (by first | rfl | (simp <;> rfl))) rfl, (xh1 trivial)⟩))
       ·refine xr ?_
        iterate 3 refine xp ?_
        refine xq ?_
        exact xv [0, 1] (ih v24 h) (.cons rfl (.cells (.cons (.h rfl rfl) (.cons (.h rfl rfl) (.cons (.h rfl rfl) .nil)))) (.cons rfl (.arr (by first | rfl | (simp <;> rfl))) .nil)) (xh5 (xh3 (xh1 ⟨.e rfl (numD h0 h1 hn), trivial⟩)))
     case done2 =>
      rintro i16 p15 h0 h1 h
      replace h : r13Ask_L2 a0 t me near peer many frame 0 i16 p15 = some v17 := h
      rw [r13Ask_L2] at h
      show VCL _ _ _ _ _ (envOf _) (_ :: _)
      refine vcl_unroll ?_
      refine vc_seq ?_
      refine xsr ?_
      iterate 5 refine xp ?_
      refine xq ?_
      refine vc_cond rfl (fun ht => absurd ht (by simp; try omega)) (fun _ => ?_)
      refine vc_exit ?_
      cases h
      exact xm [0, 1] (.cons rfl (.cells (.cons (.h rfl rfl) (.cons (.h rfl rfl) (.cons (.h rfl rfl) .nil)))) (.cons rfl (.arr (by first | rfl | (simp <;> rfl))) .nil)) (xh3 (xh1 trivial))
    ·have h := hLv17
     refine vc_seq ?_
     refine xk [0] [(7, .d (.ptr [I a0.nodes, I a0.data])), (8, .d (.ptr [.list 4 (t.uses.map encUse), .list 5 (t.grants.map encGrant), .list 3 (t.asks.map encAsk)])), (14, .own 0 0), (16, .d (.list 3 (v17.map encAsk)))] (σ' := [.cells [.d (.lit (.slice none 0 0)), .d (.lit (.slice none 0 0)), .d (.lit (.slice none 0 0))]]) (.cons rfl (.cells (.cons (.h rfl rfl) (.cons (.h rfl rfl) (.cons (.h rfl rfl) .nil)))) .nil) (xh3 ⟨.z (.osl rfl (by simp)) .refl, trivial⟩) ?_
     refine xd ?_
     iterate 7 refine xp ?_
     obtain ⟨v27, hv27, h⟩ := bindO h
     refine xc (r13sorted_ok v17 a0.data _ hv27) ?_
     refine xp ?_
     refine xw ?_
     refine xq ?_
     replace h := Option.some.inj h
     refine vc_ret ⟨.inr rfl, [encTable ⟨t.uses, t.grants, v27⟩], (.cons rfl ⟨_, .d, .refl⟩ .nil), ?_⟩
     first | (rw [← h]; done) | (rw [← h]; rfl) | (rw [← h]; simp)
def r13Grant_L1 (a0 : Layout) (me : Int) (near : (List Near)) (frame : Int) : List Grant → (List Grant) → Option (List Grant)
 | [], p4 => some p4
 | x6 :: l, p4 => Option.bind (r13renewed a0 x6 me near frame) fun v8 => cond (decide (p4.length + 1 ≤ 4294967296)) (r13Grant_L1 a0 me near frame l (p4 ++ [v8])) none
def r13Grant_L3 (a0 : Layout) (me : Int) (near : (List Near)) (frame : Int) (x14 : Near) : Nat → Int → (List Use) → (List Grant) → (List Ask) → Option (Int × List Use × List Grant × List Ask)
 | 0, p16, p17, p18, p19 => none
 | k + 1, p16, p17, p18, p19 => cond ((decide (p16 < (x14.t.asks.length : Int))) && (lately x14 frame)) (Option.bind (elt x14.t.asks p16) fun v23 => cond (cond (r12Cell v23.cell v23.peer a0) ((v23.peer != me) || (r13used a0 near v23.cell x14.src)) true) (r13Grant_L3 a0 me near frame x14 k (IntKind.i64.wrap (p16 + 1)) p17 p18 p19) (Option.bind (r12AddGrant ⟨p17, p18, p19⟩ a0 ⟨⟨v23.cell.slot, v23.cell.offset⟩, x14.src, frame, IntKind.i64.wrap (frame + 8)⟩) fun v27 => r13Grant_L3 a0 me near frame x14 k (IntKind.i64.wrap (p16 + 1)) (cond (v27.2 == 0) (v27.1.uses) (p17)) (cond (v27.2 == 0) (v27.1.grants) (p18)) (cond (v27.2 == 0) (v27.1.asks) (p19)))) (some (p16, p17, p18, p19))
def r13Grant_L2 (fuel : Nat) (a0 : Layout) (me : Int) (near : (List Near)) (frame : Int) : List Near → (List Use) → (List Grant) → (List Ask) → Option (List Use × List Grant × List Ask)
 | [], p10, p11, p12 => some (p10, p11, p12)
 | x14 :: l, p10, p11, p12 => Option.bind (r13Grant_L3 a0 me near frame x14 fuel 0 p10 p11 p12) fun v20 => r13Grant_L2 fuel a0 me near frame l v20.2.1 v20.2.2.1 v20.2.2.2
def r13Grant (fuel : Nat) (a0 : Layout) (t : Table) (me : Int) (near : (List Near)) (frame : Int) : Option (Table) := Option.bind (r13Valid a0 t me near frame) fun v1 => cond v1 (Option.bind (r12Expire t frame) fun v3 => Option.bind (r13Grant_L1 a0 me near frame v3.grants []) fun v7 => Option.bind (r13Grant_L2 fuel a0 me near frame near v3.uses v7 v3.asks) fun v15 => some ⟨v15.1, v15.2.1, v15.2.2⟩) (some t)
theorem r13Grant_ok (fuel : Nat) (a0 : Layout) (t : Table) (me : Int) (near : (List Near)) (frame : Int) (r : Table) (h : r13Grant fuel a0 t me near frame = some r) : PCalls Tryz.prog 17 [encLayout a0, encTable t, I me, .list 31 (near.map encNear), I frame] (encTable r) := by
 unfold r13Grant at h
 refine xe 145 Tryz.func17 ?_
 refine xsr ?_
 refine xa ?_
 refine xa ?_
 refine xa ?_
 refine xq ?_
 refine vc_seq ?_
 refine xk [2] [(2, .d (I me)), (3, .d (.list 31 (near.map encNear))), (4, .d (I frame)), (5, .d (.ptr [I a0.nodes, I a0.data])), (6, .d (.ptr [.list 4 (t.uses.map encUse), .list 5 (t.grants.map encGrant), .list 3 (t.asks.map encAsk)])), (10, .own 0 0)] (σ' := [.cells [.d (.lit (.slice none 0 0)), .d (.lit (.slice none 0 0)), .d (.lit (.slice none 0 0))]]) (.cons rfl (.cells (.cons (.h rfl rfl) (.cons (.h rfl rfl) (.cons (.h rfl rfl) .nil)))) .nil) (xh3 ⟨.z (.own' rfl (.cons .d (.cons .d .nil))) .refl, ⟨.z (.own' rfl (.cons .d (.cons .d (.cons .d .nil)))) .refl, (xh1 trivial)⟩⟩) ?_
 refine xr ?_
 iterate 5 refine xp ?_
 obtain ⟨v1, hv1, h⟩ := bindO h
 refine xc (r13Valid_ok a0 t me near frame _ hv1) ?_
 refine xp ?_
 refine xq ?_
 refine vc_seq ?_
 refine xsr ?_
 iterate 2 refine xp ?_
 refine xq ?_
 cases c2 : v1 with
 | true =>
  have h := cT c2 h
  refine vc_condF rfl ?_
  refine vc_skip ?_
  refine xsr ?_
  iterate 2 refine xp ?_
  obtain ⟨v3, hv3, h⟩ := bindO h
  refine xc (r12Expire_ok t frame _ hv3) ?_
  refine xa ?_
  refine xw ?_
  refine xq ?_
  refine vc_seq ?_
  refine xk [0] [(2, .d (I me)), (3, .d (.list 31 (near.map encNear))), (4, .d (I frame)), (5, .d (.ptr [I a0.nodes, I a0.data])), (10, .own 0 0), (12, .d (.ptr [.list 4 (v3.uses.map encUse), .list 5 (v3.grants.map encGrant), .list 3 (v3.asks.map encAsk)]))] (σ' := [.cells [.d (.lit (.slice none 0 0)), .d (.lit (.slice none 0 0)), .d (.lit (.slice none 0 0))]]) (.cons rfl (.cells (.cons (.h rfl rfl) (.cons (.h rfl rfl) (.cons (.h rfl rfl) .nil)))) .nil) (xh5 ⟨.z (.own' rfl (.cons .d (.cons .d (.cons .d .nil)))) .refl, trivial⟩) ?_
  refine xr ?_
  iterate 5 refine xp ?_
  refine xa ?_
  refine xw ?_
  refine xq ?_
  refine vc_seq ?_
  refine xsr ?_
  refine xp ?_
  refine xq ?_
  refine VC.weak (weak_ownNilC 1 1 59 5 rfl rfl rfl rfl) ?_
  obtain ⟨v7, hv7, hLv7⟩ := bindO h
  refine vc_midQ [(2, .d (I me)), (3, .d (.list 31 (near.map encNear))), (4, .d (I frame)), (5, .d (.ptr [I a0.nodes, I a0.data])), (10, .own 0 0), (13, .own 1 0)] [.cells [.d (.lit (.slice none 0 0)), .d (.lit (.slice none 0 0)), .d (.lit (.slice none 0 0))], .cells [.d (.list 4 (v3.uses.map encUse)), .osl 2 v7.length, .d (.list 3 (v3.asks.map encAsk))], .arr 59 5 (v7.map encGrant)] ?_ ?_
  ·refine vc_block ?_
   refine vc_loop ?_
   refine xK [0, 1, 2] [(2, .d (I me)), (3, .d (.list 31 (near.map encNear))), (4, .d (I frame)), (5, .d (.ptr [I a0.nodes, I a0.data])), (10, .own 0 0), (12, .d (.ptr [.list 4 (v3.uses.map encUse), .list 5 (v3.grants.map encGrant), .list 3 (v3.asks.map encAsk)])), (13, .own 1 0), (14, .d (I 0))] (σ' := [.cells [.d (.lit (.slice none 0 0)), .d (.lit (.slice none 0 0)), .d (.lit (.slice none 0 0))], .cells [.d (.list 4 (v3.uses.map encUse)), .osl 2 0, .d (.list 3 (v3.asks.map encAsk))], .arr 59 5 ([].map encGrant)]) (.cons rfl (.cells (.cons (.h rfl rfl) (.cons (.h rfl rfl) (.cons (.h rfl rfl) .nil)))) (.cons rfl (.cells (.cons (.h rfl rfl) (.cons (.h rfl rfl) (.cons (.h rfl rfl) .nil)))) (.cons rfl (.arr (by first | rfl | (simp <;> rfl))) .nil))) (xh5 (xh3 trivial)) ?_
   refine vcl_lenS 12 rfl (.ptr 1 rfl .here) (fun hlen => ?_)
   replace hlen := len_map hlen
   refine vcl_rec v3.grants (fun (pre l : List Grant) (s : List Grant) => r13Grant_L1 a0 me near frame l s) (some v7) (fun pre s => envOf [(2, .d (I me)), (3, .d (.list 31 (near.map encNear))), (4, .d (I frame)), (5, .d (.ptr [I a0.nodes, I a0.data])), (10, .own 0 0), (12, .d (.ptr [.list 4 (v3.uses.map encUse), .list 5 (v3.grants.map encGrant), .list 3 (v3.asks.map encAsk)])), (13, .own 1 0), (14, .d (I (pre.length : Int)))]) (fun pre s => [.cells [.d (.lit (.slice none 0 0)), .d (.lit (.slice none 0 0)), .d (.lit (.slice none 0 0))], .cells [.d (.list 4 (v3.uses.map encUse)), .osl 2 s.length, .d (.list 3 (v3.asks.map encAsk))], .arr 59 5 (s.map encGrant)]) ?step1 ?done1 [] hv7
   case step1 =>
    rintro pre x6 l p4 hpre hlt h ih
    have hprex6 := hpre
    replace h : r13Grant_L1 a0 me near frame (x6 :: l) p4 = some v7 := h
    show VCL _ _ _ _ _ (envOf _) (_ :: _)
    obtain ⟨i5, hi⟩ : ∃ i : Int, i = (pre.length : Int) := ⟨_, rfl⟩
    have hix6 := hi
    rw [← hi]
    rw [r13Grant_L1] at h
    refine vcl_unroll ?_
    refine vc_seq ?_
    refine xsr ?_
    iterate 3 refine xp ?_
    refine xl ?_
    refine xp ?_
    refine xq ?_
    refine vc_cond rfl (fun _ => ?_) (fun hf => absurd hf (by simp; omega))
    refine vc_skip ?_
    refine vc_seq ?_
    refine vc_block ?_
    refine xd ?_
    refine xp ?_
    refine xR ?_
    iterate 4 refine xp ?_
    refine ri rfl rfl rfl rfl rfl rfl rfl (by omega) (by rw [hix6]; exact idxp hprex6) ?_
    iterate 4 refine xp ?_
    obtain ⟨v8, hv8, h⟩ := bindO h
    refine xc (r13renewed_ok a0 x6 me near frame _ hv8) ?_
    refine xb ?_
    obtain ⟨g9, h⟩ := gd h; replace g9 := dT g9
    refine rap rfl rfl rfl rfl rfl rfl rfl rfl .list rfl rfl rfl rfl (by simp) (by simp; omega) (by simp; omega) ?_
    refine xp ?_
    refine xw ?_
    refine xq ?_
    refine xr ?_
    iterate 3 refine xp ?_
    refine xq ?_
    exact xv [0, 1, 2] (ih (p4 ++ [v8]) h) (.cons rfl (.cells (.cons (.h rfl rfl) (.cons (.h rfl rfl) (.cons (.h rfl rfl) .nil)))) (.cons rfl (.cells (.cons (.h rfl rfl) (.cons (.h (oslE rfl (by first | rfl | (simp <;> rfl))) rfl) (.cons (.h rfl rfl) .nil)))) (.cons rfl (.arr (by first | rfl | (simp <;> rfl))) .nil))) (xh5 (xh2 ⟨.e rfl (cntI hi hlt hlen), trivial⟩))
   case done1 =>
    rintro p4 h
    replace h : r13Grant_L1 a0 me near frame [] p4 = some v7 := h
    rw [r13Grant_L1] at h
    show VCL _ _ _ _ _ (envOf _) (_ :: _)
    refine vcl_unroll ?_
    refine vc_seq ?_
    refine xsr ?_
    iterate 3 refine xp ?_
    refine xl ?_
    refine xp ?_
    refine xq ?_
    refine vc_cond rfl (fun ht => absurd ht (by simp; try omega)) (fun _ => ?_)
    refine vc_exit ?_
    cases h
    exact xm [0, 1, 2] (.cons rfl (.cells (.cons (.h rfl rfl) (.cons (.h rfl rfl) (.cons (.h rfl rfl) .nil)))) (.cons rfl (.cells (.cons (.h rfl rfl) (.cons (.h rfl rfl) (.cons (.h rfl rfl) .nil)))) (.cons rfl (.arr (by first | rfl | (simp <;> rfl))) .nil))) (xh5 (xh1 trivial))
  ·have h := hLv7
   refine vc_seq ?_
   refine vc_seq ?_
   refine xk [0, 1] [(2, .d (I me)), (3, .d (.list 31 (near.map encNear))), (4, .d (I frame)), (5, .d (.ptr [I a0.nodes, I a0.data])), (10, .own 0 0), (13, .own 1 0)] (σ' := [.cells [.d (.lit (.slice none 0 0)), .d (.lit (.slice none 0 0)), .d (.lit (.slice none 0 0))], .cells [.d (.list 4 (v3.uses.map encUse)), .d (.list 5 (v7.map encGrant)), .d (.list 3 (v3.asks.map encAsk))]]) (.cons rfl (.cells (.cons (.h rfl rfl) (.cons (.h rfl rfl) (.cons (.h rfl rfl) .nil)))) (.cons rfl (.cells (.cons (.h rfl rfl) (.cons (.z (.osl rfl (by simp)) .refl) (.cons (.h rfl rfl) .nil)))) .nil)) (xh5 (xh1 trivial)) ?_
   refine xr ?_
   refine xp ?_
   refine xq ?_
   obtain ⟨v15, hv15, hLv15⟩ := bindO h
   refine vc_midQ [(10, .own 0 0), (13, .own 1 0)] [.cells [.d (.lit (.slice none 0 0)), .d (.lit (.slice none 0 0)), .d (.lit (.slice none 0 0))], .cells [.d (.list 4 (v15.1.map encUse)), .d (.list 5 (v15.2.1.map encGrant)), .d (.list 3 (v15.2.2.map encAsk))]] ?_ ?_
   ·refine vc_block ?_
    refine vc_loop ?_
    refine xK [0, 1] [(2, .d (I me)), (3, .d (.list 31 (near.map encNear))), (4, .d (I frame)), (5, .d (.ptr [I a0.nodes, I a0.data])), (10, .own 0 0), (13, .own 1 0), (15, .d (I 0))] (σ' := [.cells [.d (.lit (.slice none 0 0)), .d (.lit (.slice none 0 0)), .d (.lit (.slice none 0 0))], .cells [.d (.list 4 (v3.uses.map encUse)), .d (.list 5 (v7.map encGrant)), .d (.list 3 (v3.asks.map encAsk))]]) (.cons rfl (.cells (.cons (.h rfl rfl) (.cons (.h rfl rfl) (.cons (.h rfl rfl) .nil)))) (.cons rfl (.cells (.cons (.h rfl rfl) (.cons (.h rfl rfl) (.cons (.h rfl rfl) .nil)))) .nil)) (xh5 (xh2 trivial)) ?_
    refine vcl_len 3 rfl (fun hlen => ?_)
    replace hlen := len_map hlen
    refine vcl_rec near (fun (pre l : List Near) (s : List Use × List Grant × List Ask) => r13Grant_L2 fuel a0 me near frame l s.1 s.2.1 s.2.2) (some v15) (fun pre s => envOf [(2, .d (I me)), (3, .d (.list 31 (near.map encNear))), (4, .d (I frame)), (5, .d (.ptr [I a0.nodes, I a0.data])), (10, .own 0 0), (13, .own 1 0), (15, .d (I (pre.length : Int)))]) (fun pre s => [.cells [.d (.lit (.slice none 0 0)), .d (.lit (.slice none 0 0)), .d (.lit (.slice none 0 0))], .cells [.d (.list 4 (s.1.map encUse)), .d (.list 5 (s.2.1.map encGrant)), .d (.list 3 (s.2.2.map encAsk))]]) ?step2 ?done2 (v3.uses, v7, v3.asks) hv15
    case step2 =>
     rintro pre x14 l ⟨p10, p11, p12⟩ hpre hlt h ih
     have hprex14 := hpre
     replace h : r13Grant_L2 fuel a0 me near frame (x14 :: l) p10 p11 p12 = some v15 := h
     show VCL _ _ _ _ _ (envOf _) (_ :: _)
     obtain ⟨i13, hi⟩ : ∃ i : Int, i = (pre.length : Int) := ⟨_, rfl⟩
     have hix14 := hi
     rw [← hi]
     rw [r13Grant_L2] at h
     refine vcl_unroll ?_
     refine vc_seq ?_
     refine xsr ?_
     iterate 2 refine xp ?_
     refine xl ?_
     refine xp ?_
     refine xq ?_
     refine vc_cond rfl (fun _ => ?_) (fun hf => absurd hf (by simp; omega))
     refine vc_skip ?_
     refine vc_seq ?_
     refine vc_block ?_
     refine xsr ?_
     iterate 2 refine xp ?_
     refine ri rfl rfl rfl rfl rfl rfl rfl (by omega) (by rw [hix14]; exact idxp hprex14) ?_
     iterate 2 refine xp ?_
     refine xc (lately_ok x14 frame _ rfl) ?_
     refine xp ?_
     refine xq ?_
     refine xsr ?_
     refine xp ?_
     refine xq ?_
     obtain ⟨v20, hv20, hLv20⟩ := bindO h
     refine vc_midQ [(2, .d (I me)), (3, .d (.list 31 (near.map encNear))), (4, .d (I frame)), (5, .d (.ptr [I a0.nodes, I a0.data])), (10, .own 0 0), (13, .own 1 0), (15, .d (I i13))] [.cells [.d (.lit (.slice none 0 0)), .d (.lit (.slice none 0 0)), .d (.lit (.slice none 0 0))], .cells [.d (.list 4 (v20.2.1.map encUse)), .d (.list 5 (v20.2.2.1.map encGrant)), .d (.list 3 (v20.2.2.2.map encAsk))]] ?_ ?_
     ·refine vc_block ?_
      refine vc_loop ?_
      refine xK [0, 1] [(2, .d (I me)), (3, .d (.list 31 (near.map encNear))), (4, .d (I frame)), (5, .d (.ptr [I a0.nodes, I a0.data])), (10, .own 0 0), (13, .own 1 0), (15, .d (I i13)), (16, .d (B (lately x14 frame))), (17, .d (I 0))] (σ' := [.cells [.d (.lit (.slice none 0 0)), .d (.lit (.slice none 0 0)), .d (.lit (.slice none 0 0))], .cells [.d (.list 4 (p10.map encUse)), .d (.list 5 (p11.map encGrant)), .d (.list 3 (p12.map encAsk))]]) (.cons rfl (.cells (.cons (.h rfl rfl) (.cons (.h rfl rfl) (.cons (.h rfl rfl) .nil)))) (.cons rfl (.cells (.cons (.h rfl rfl) (.cons (.h rfl rfl) (.cons (.h rfl rfl) .nil)))) .nil)) (xh5 (xh3 (xh1 trivial))) ?_
      refine vcl_fuel (fun (k : Nat) (s : Int × List Use × List Grant × List Ask) => r13Grant_L3 a0 me near frame x14 k s.1 s.2.1 s.2.2.1 s.2.2.2) v20 (fun s => envOf [(2, .d (I me)), (3, .d (.list 31 (near.map encNear))), (4, .d (I frame)), (5, .d (.ptr [I a0.nodes, I a0.data])), (10, .own 0 0), (13, .own 1 0), (15, .d (I i13)), (16, .d (B (lately x14 frame))), (17, .d (I s.1))]) (fun s => [.cells [.d (.lit (.slice none 0 0)), .d (.lit (.slice none 0 0)), .d (.lit (.slice none 0 0))], .cells [.d (.list 4 (s.2.1.map encUse)), .d (.list 5 (s.2.2.1.map encGrant)), .d (.list 3 (s.2.2.2.map encAsk))]]) (fun _ => rfl) ?step3 fuel (0, p10, p11, p12) hv20
      case step3 =>
       rintro k ⟨p16, p17, p18, p19⟩ h ih
       replace h : r13Grant_L3 a0 me near frame x14 (k + 1) p16 p17 p18 p19 = some v20 := h
       rw [r13Grant_L3] at h
       show VCL _ _ _ _ _ (envOf _) (_ :: _)
       refine vcl_unroll ?_
       refine vc_seq ?_
       refine vc_seq ?_
       refine vc_midQ [(2, .d (I me)), (3, .d (.list 31 (near.map encNear))), (4, .d (I frame)), (5, .d (.ptr [I a0.nodes, I a0.data])), (10, .own 0 0), (13, .own 1 0), (15, .d (I i13)), (16, .d (B (lately x14 frame))), (17, .d (I p16)), (84, .d (B ((decide (p16 < (x14.t.asks.length : Int))) && (lately x14 frame))))] [.cells [.d (.lit (.slice none 0 0)), .d (.lit (.slice none 0 0)), .d (.lit (.slice none 0 0))], .cells [.d (.list 4 (p17.map encUse)), .d (.list 5 (p18.map encGrant)), .d (.list 3 (p19.map encAsk))]] ?_ ?_
       ·refine xr ?_
        iterate 3 refine xp ?_
        refine ri rfl rfl rfl rfl rfl rfl rfl (by omega) (by rw [hix14]; exact idxp hprex14) ?_
        iterate 3 refine xp ?_
        refine xl ?_
        iterate 2 refine xp ?_
        cases c21 : decide (p16 < (x14.t.asks.length : Int)) with
        | true =>
         iterate 2 refine xp ?_
         refine xq ?_
         exact xm [0, 1] ((.cons rfl (.cells (.cons (.h rfl rfl) (.cons (.h rfl rfl) (.cons (.h rfl rfl) .nil)))) (.cons rfl (.cells (.cons (.h rfl rfl) (.cons (.h rfl rfl) (.cons (.h rfl rfl) .nil)))) .nil))) (xh5 (xh5 trivial))
        | false =>
         refine xs ?_
         refine xp ?_
         refine xq ?_
         exact xm [0, 1] ((.cons rfl (.cells (.cons (.h rfl rfl) (.cons (.h rfl rfl) (.cons (.h rfl rfl) .nil)))) (.cons rfl (.cells (.cons (.h rfl rfl) (.cons (.h rfl rfl) (.cons (.h rfl rfl) .nil)))) .nil))) (xh5 (xh5 trivial))
       ·cases c22 : ((decide (p16 < (x14.t.asks.length : Int))) && (lately x14 frame)) with
        | true =>
         have h := cT c22 h
         refine vc_condT rfl ?_
         refine vc_skip ?_
         refine vc_seq ?_
         refine vc_block ?_
         refine xsr ?_
         iterate 2 refine xp ?_
         refine ri rfl rfl rfl rfl rfl rfl rfl (by omega) (by rw [hix14]; exact idxp hprex14) ?_
         iterate 4 refine xp ?_
         obtain ⟨v23, hv23, h⟩ := bindO h
         refine ri rfl rfl rfl rfl rfl rfl rfl (elt0 hv23) (eltm _ hv23) ?_
         refine xp ?_
         refine xa ?_
         refine xw ?_
         refine xq ?_
         refine vc_seq ?_
         refine xk [0, 1] [(2, .d (I me)), (3, .d (.list 31 (near.map encNear))), (4, .d (I frame)), (5, .d (.ptr [I a0.nodes, I a0.data])), (10, .own 0 0), (13, .own 1 0), (15, .d (I i13)), (16, .d (B (lately x14 frame))), (17, .d (I p16)), (18, .d (.ptr [I v23.cell.slot, I v23.cell.offset, I v23.peer]))] (σ' := [.cells [.d (.lit (.slice none 0 0)), .d (.lit (.slice none 0 0)), .d (.lit (.slice none 0 0))], .cells [.d (.list 4 (p17.map encUse)), .d (.list 5 (p18.map encGrant)), .d (.list 3 (p19.map encAsk))]]) (.cons rfl (.cells (.cons (.h rfl rfl) (.cons (.h rfl rfl) (.cons (.h rfl rfl) .nil)))) (.cons rfl (.cells (.cons (.h rfl rfl) (.cons (.h rfl rfl) (.cons (.h rfl rfl) .nil)))) .nil)) (xh5 (xh3 (xh1 ⟨.z (.own' rfl (.cons .d (.cons .d (.cons .d .nil)))) .refl, trivial⟩))) ?_
         refine xr ?_
         iterate 5 refine xp ?_
         refine xc (r12Cell_ok v23.cell v23.peer a0 _ rfl) ?_
         refine xp ?_
         refine xq ?_
         refine vc_seq ?_
         refine vc_seq ?_
         refine vc_midQ [(2, .d (I me)), (3, .d (.list 31 (near.map encNear))), (4, .d (I frame)), (5, .d (.ptr [I a0.nodes, I a0.data])), (10, .own 0 0), (13, .own 1 0), (15, .d (I i13)), (16, .d (B (lately x14 frame))), (17, .d (I p16)), (18, .d (.ptr [I v23.cell.slot, I v23.cell.offset, I v23.peer])), (122, .d (B (cond (r12Cell v23.cell v23.peer a0) ((v23.peer != me) || (r13used a0 near v23.cell x14.src)) true)))] [.cells [.d (.lit (.slice none 0 0)), .d (.lit (.slice none 0 0)), .d (.lit (.slice none 0 0))], .cells [.d (.list 4 (p17.map encUse)), .d (.list 5 (p18.map encGrant)), .d (.list 3 (p19.map encAsk))]] ?_ ?_
         ·refine xd ?_
          iterate 3 refine xp ?_
          cases c24 : (r12Cell v23.cell v23.peer a0) with
          | true =>
           iterate 6 refine xp ?_
           cases c25 : (v23.peer != me) with
           | true =>
            iterate 11 refine xs ?_
            refine xp ?_
            refine xq ?_
            exact xm [0, 1] ((.cons rfl (.cells (.cons (.h rfl rfl) (.cons (.h rfl rfl) (.cons (.h rfl rfl) .nil)))) (.cons rfl (.cells (.cons (.h rfl rfl) (.cons (.h rfl rfl) (.cons (.h rfl rfl) .nil)))) .nil))) (xh5 (xh5 (xh1 trivial)))
           | false =>
            iterate 6 refine xp ?_
            refine ri rfl rfl rfl rfl rfl rfl rfl (by omega) (by rw [hix14]; exact idxp hprex14) ?_
            iterate 3 refine xp ?_
            refine xc (r13used_ok a0 near v23.cell x14.src _ rfl) ?_
            refine xp ?_
            refine xq ?_
            exact xm [0, 1] ((.cons rfl (.cells (.cons (.h rfl rfl) (.cons (.h rfl rfl) (.cons (.h rfl rfl) .nil)))) (.cons rfl (.cells (.cons (.h rfl rfl) (.cons (.h rfl rfl) (.cons (.h rfl rfl) .nil)))) .nil))) (xh5 (xh5 (xh1 trivial)))
          | false =>
           iterate 4 refine xs ?_
           iterate 2 refine xp ?_
           iterate 11 refine xs ?_
           refine xp ?_
           refine xq ?_
           exact xm [0, 1] ((.cons rfl (.cells (.cons (.h rfl rfl) (.cons (.h rfl rfl) (.cons (.h rfl rfl) .nil)))) (.cons rfl (.cells (.cons (.h rfl rfl) (.cons (.h rfl rfl) (.cons (.h rfl rfl) .nil)))) .nil))) (xh5 (xh5 (xh1 trivial)))
         ·cases c26 : (cond (r12Cell v23.cell v23.peer a0) ((v23.peer != me) || (r13used a0 near v23.cell x14.src)) true) with
          | true =>
           have h := cT c26 h
           refine vc_condT rfl ?_
           refine vc_exit ?_
           refine xr ?_
           iterate 3 refine xp ?_
           refine xq ?_
           exact xv [0, 1] (ih (IntKind.i64.wrap (p16 + 1), p17, p18, p19) h) (.cons rfl (.cells (.cons (.h rfl rfl) (.cons (.h rfl rfl) (.cons (.h rfl rfl) .nil)))) (.cons rfl (.cells (.cons (.h rfl rfl) (.cons (.h rfl rfl) (.cons (.h rfl rfl) .nil)))) .nil)) (xh5 (xh3 (xh1 trivial)))
          | false =>
           have h := cF c26 h
           refine vc_condF rfl ?_
           refine vc_skip ?_
           refine xsd ?_
           refine xR ?_
           iterate 5 refine xp ?_
           refine ri rfl rfl rfl rfl rfl rfl rfl (by omega) (by rw [hix14]; exact idxp hprex14) ?_
           iterate 7 refine xp ?_
           obtain ⟨v27, hv27, h⟩ := bindO h
           refine xc (r12AddGrant_ok ⟨p17, p18, p19⟩ a0 ⟨⟨v23.cell.slot, v23.cell.offset⟩, x14.src, frame, IntKind.i64.wrap (frame + 8)⟩ _ hv27) ?_
           iterate 3 refine xp ?_
           refine xa ?_
           refine xw ?_
           refine xp ?_
           refine xq ?_
           refine vc_seq ?_
           refine xk [0, 1] [(2, .d (I me)), (3, .d (.list 31 (near.map encNear))), (4, .d (I frame)), (5, .d (.ptr [I a0.nodes, I a0.data])), (10, .own 0 0), (13, .own 1 0), (15, .d (I i13)), (16, .d (B (lately x14 frame))), (17, .d (I p16)), (20, .d (.ptr [.list 4 (v27.1.uses.map encUse), .list 5 (v27.1.grants.map encGrant), .list 3 (v27.1.asks.map encAsk)])), (21, .d (I v27.2))] (σ' := [.cells [.d (.lit (.slice none 0 0)), .d (.lit (.slice none 0 0)), .d (.lit (.slice none 0 0))], .cells [.d (.list 4 (p17.map encUse)), .d (.list 5 (p18.map encGrant)), .d (.list 3 (p19.map encAsk))]]) (.cons rfl (.cells (.cons (.h rfl rfl) (.cons (.h rfl rfl) (.cons (.h rfl rfl) .nil)))) (.cons rfl (.cells (.cons (.h rfl rfl) (.cons (.h rfl rfl) (.cons (.h rfl rfl) .nil)))) .nil)) (xh5 (xh3 (xh1 ⟨.z (.own' rfl (.cons .d (.cons .d (.cons .d .nil)))) .refl, (xh1 trivial)⟩))) ?_
           refine xr ?_
           iterate 2 refine xp ?_
           refine xq ?_
           refine vc_midQ [(2, .d (I me)), (3, .d (.list 31 (near.map encNear))), (4, .d (I frame)), (5, .d (.ptr [I a0.nodes, I a0.data])), (10, .own 0 0), (13, .own 1 0), (15, .d (I i13)), (16, .d (B (lately x14 frame))), (17, .d (I p16))] [.cells [.d (.lit (.slice none 0 0)), .d (.lit (.slice none 0 0)), .d (.lit (.slice none 0 0))], .cells [.d (.list 4 ((cond (v27.2 == 0) (v27.1.uses) (p17)).map encUse)), .d (.list 5 ((cond (v27.2 == 0) (v27.1.grants) (p18)).map encGrant)), .d (.list 3 ((cond (v27.2 == 0) (v27.1.asks) (p19)).map encAsk))]] ?_ ?_
           ·cases c28 : (v27.2 == 0) with
            | true =>
             refine vc_condT rfl ?_
             refine xr ?_
             refine xp ?_
             refine xw ?_
             refine xq ?_
             exact xm [0, 1] ((.cons rfl (.cells (.cons (.h rfl rfl) (.cons (.h rfl rfl) (.cons (.h rfl rfl) .nil)))) (.cons rfl (.cells (.cons (.h rfl rfl) (.cons (.h rfl rfl) (.cons (.h rfl rfl) .nil)))) .nil))) (xh5 (xh3 (xh1 trivial)))
            | false =>
             refine vc_condF rfl ?_
             refine vc_skip ?_
             exact xm [0, 1] ((.cons rfl (.cells (.cons (.h rfl rfl) (.cons (.h rfl rfl) (.cons (.h rfl rfl) .nil)))) (.cons rfl (.cells (.cons (.h rfl rfl) (.cons (.h rfl rfl) (.cons (.h rfl rfl) .nil)))) .nil))) (xh5 (xh3 (xh1 trivial)))
           ·refine xr ?_
            iterate 3 refine xp ?_
            refine xq ?_
            exact xv [0, 1] (ih (IntKind.i64.wrap (p16 + 1), (cond (v27.2 == 0) (v27.1.uses) (p17)), (cond (v27.2 == 0) (v27.1.grants) (p18)), (cond (v27.2 == 0) (v27.1.asks) (p19))) h) (.cons rfl (.cells (.cons (.h rfl rfl) (.cons (.h rfl rfl) (.cons (.h rfl rfl) .nil)))) (.cons rfl (.cells (.cons (.h rfl rfl) (.cons (.h rfl rfl) (.cons (.h rfl rfl) .nil)))) .nil)) (xh5 (xh3 (xh1 trivial)))
        | false =>
         have h := cF c22 h
         refine vc_condF rfl ?_
         refine vc_exit ?_
         cases h
         exact xm [0, 1] (.cons rfl (.cells (.cons (.h rfl rfl) (.cons (.h rfl rfl) (.cons (.h rfl rfl) .nil)))) (.cons rfl (.cells (.cons (.h rfl rfl) (.cons (.h rfl rfl) (.cons (.h rfl rfl) .nil)))) .nil)) (xh5 (xh2 trivial))
     ·have h := hLv20
      refine xr ?_
      iterate 3 refine xp ?_
      refine xq ?_
      exact xv [0, 1] (ih (v20.2.1, v20.2.2.1, v20.2.2.2) h) (.cons rfl (.cells (.cons (.h rfl rfl) (.cons (.h rfl rfl) (.cons (.h rfl rfl) .nil)))) (.cons rfl (.cells (.cons (.h rfl rfl) (.cons (.h rfl rfl) (.cons (.h rfl rfl) .nil)))) .nil)) (xh5 (xh1 ⟨.e rfl (cntI hi hlt hlen), trivial⟩))
    case done2 =>
     rintro ⟨p10, p11, p12⟩ h
     replace h : r13Grant_L2 fuel a0 me near frame [] p10 p11 p12 = some v15 := h
     rw [r13Grant_L2] at h
     show VCL _ _ _ _ _ (envOf _) (_ :: _)
     refine vcl_unroll ?_
     refine vc_seq ?_
     refine xsr ?_
     iterate 2 refine xp ?_
     refine xl ?_
     refine xp ?_
     refine xq ?_
     refine vc_cond rfl (fun ht => absurd ht (by simp; try omega)) (fun _ => ?_)
     refine vc_exit ?_
     cases h
     exact xm [0, 1] (.cons rfl (.cells (.cons (.h rfl rfl) (.cons (.h rfl rfl) (.cons (.h rfl rfl) .nil)))) (.cons rfl (.cells (.cons (.h rfl rfl) (.cons (.h rfl rfl) (.cons (.h rfl rfl) .nil)))) .nil)) (xh2 trivial)
   ·have h := hLv15
    refine xsr ?_
    refine xR ?_
    refine xw ?_
    refine xq ?_
    replace h := Option.some.inj h
    refine vc_ret ⟨.inr rfl, [encTable ⟨v15.1, v15.2.1, v15.2.2⟩], (.cons rfl ⟨_, .d, .refl⟩ .nil), ?_⟩
    first | (rw [← h]; done) | (rw [← h]; rfl) | (rw [← h]; simp)
 | false =>
  have h := cF c2 h
  refine vc_condT rfl ?_
  refine xsr ?_
  refine xp ?_
  refine xw ?_
  refine xq ?_
  replace h := Option.some.inj h
  refine vc_ret ⟨.inr rfl, [encTable t], (.cons rfl ⟨_, .d, .refl⟩ .nil), ?_⟩
  first | (rw [← h]; done) | (rw [← h]; rfl) | (rw [← h]; simp)
def r13Take_L1 (a0 : Layout) (me : Int) (near : (List Near)) (frame : Int) : List Use → (List Use) → Option (List Use)
 | [], p3 => some p3
 | x5 :: l, p3 => Option.bind (r13Granted a0 near x5.peer x5.cell me frame) fun v7 => Option.bind (cond v7.2 (cond (decide (p3.length + 1 ≤ 4294967296)) (some (p3 ++ [⟨⟨x5.cell.slot, x5.cell.offset⟩, x5.peer, v7.1.stamp⟩])) none) (some p3)) fun v8 => r13Take_L1 a0 me near frame l v8
def r13Take_L3 (a0 : Layout) (t : Table) (me : Int) (frame : Int) (x15 : Near) : Nat → Int → (List Use) → (List Grant) → (List Ask) → Option (Int × List Use × List Grant × List Ask)
 | 0, p17, p18, p19, p20 => none
 | k + 1, p17, p18, p19, p20 => cond ((decide (p17 < (x15.t.grants.length : Int))) && (r13partner t x15.src)) (Option.bind (elt x15.t.grants p17) fun v24 => cond (mine a0 v24 me frame) (Option.bind (r12AddUse ⟨p18, p19, p20⟩ a0 ⟨⟨v24.cell.slot, v24.cell.offset⟩, x15.src, v24.stamp⟩) fun v26 => r13Take_L3 a0 t me frame x15 k (IntKind.i64.wrap (p17 + 1)) (cond (v26.2 == 0) (v26.1.uses) (p18)) (cond (v26.2 == 0) (v26.1.grants) (p19)) (cond (v26.2 == 0) (v26.1.asks) (p20))) (r13Take_L3 a0 t me frame x15 k (IntKind.i64.wrap (p17 + 1)) p18 p19 p20)) (some (p17, p18, p19, p20))
def r13Take_L2 (fuel : Nat) (a0 : Layout) (t : Table) (me : Int) (frame : Int) : List Near → (List Use) → (List Grant) → (List Ask) → Option (List Use × List Grant × List Ask)
 | [], p11, p12, p13 => some (p11, p12, p13)
 | x15 :: l, p11, p12, p13 => Option.bind (r13Take_L3 a0 t me frame x15 fuel 0 p11 p12 p13) fun v21 => r13Take_L2 fuel a0 t me frame l v21.2.1 v21.2.2.1 v21.2.2.2
def r13Take (fuel : Nat) (a0 : Layout) (t : Table) (me : Int) (near : (List Near)) (frame : Int) : Option (Table) := Option.bind (r13Valid a0 t me near frame) fun v1 => cond v1 (Option.bind (r13Take_L1 a0 me near frame t.uses []) fun v6 => Option.bind (r13Take_L2 fuel a0 t me frame near v6 t.grants t.asks) fun v16 => some ⟨v16.1, v16.2.1, v16.2.2⟩) (some t)
theorem r13Take_ok (fuel : Nat) (a0 : Layout) (t : Table) (me : Int) (near : (List Near)) (frame : Int) (r : Table) (h : r13Take fuel a0 t me near frame = some r) : PCalls Tryz.prog 18 [encLayout a0, encTable t, I me, .list 31 (near.map encNear), I frame] (encTable r) := by
 unfold r13Take at h
 refine xe 134 Tryz.func18 ?_
 refine xsr ?_
 refine xa ?_
 refine xa ?_
 refine xa ?_
 refine xq ?_
 refine vc_seq ?_
 refine xk [2] [(2, .d (I me)), (3, .d (.list 31 (near.map encNear))), (4, .d (I frame)), (5, .d (.ptr [I a0.nodes, I a0.data])), (6, .d (.ptr [.list 4 (t.uses.map encUse), .list 5 (t.grants.map encGrant), .list 3 (t.asks.map encAsk)])), (10, .own 0 0)] (σ' := [.cells [.d (.lit (.slice none 0 0)), .d (.lit (.slice none 0 0)), .d (.lit (.slice none 0 0))]]) (.cons rfl (.cells (.cons (.h rfl rfl) (.cons (.h rfl rfl) (.cons (.h rfl rfl) .nil)))) .nil) (xh3 ⟨.z (.own' rfl (.cons .d (.cons .d .nil))) .refl, ⟨.z (.own' rfl (.cons .d (.cons .d (.cons .d .nil)))) .refl, (xh1 trivial)⟩⟩) ?_
 refine xr ?_
 iterate 5 refine xp ?_
 obtain ⟨v1, hv1, h⟩ := bindO h
 refine xc (r13Valid_ok a0 t me near frame _ hv1) ?_
 refine xp ?_
 refine xq ?_
 refine vc_seq ?_
 refine xsr ?_
 iterate 2 refine xp ?_
 refine xq ?_
 cases c2 : v1 with
 | true =>
  have h := cT c2 h
  refine vc_condF rfl ?_
  refine vc_skip ?_
  refine xsr ?_
  iterate 5 refine xp ?_
  refine xa ?_
  refine xw ?_
  refine xq ?_
  refine vc_seq ?_
  refine xsr ?_
  refine xp ?_
  refine xq ?_
  refine VC.weak (weak_ownNilC 1 0 61 4 rfl rfl rfl rfl) ?_
  obtain ⟨v6, hv6, hLv6⟩ := bindO h
  refine vc_midQ [(2, .d (I me)), (3, .d (.list 31 (near.map encNear))), (4, .d (I frame)), (5, .d (.ptr [I a0.nodes, I a0.data])), (6, .d (.ptr [.list 4 (t.uses.map encUse), .list 5 (t.grants.map encGrant), .list 3 (t.asks.map encAsk)])), (10, .own 0 0), (12, .own 1 0)] [.cells [.d (.lit (.slice none 0 0)), .d (.lit (.slice none 0 0)), .d (.lit (.slice none 0 0))], .cells [.osl 2 v6.length, .d (.list 5 (t.grants.map encGrant)), .d (.list 3 (t.asks.map encAsk))], .arr 61 4 (v6.map encUse)] ?_ ?_
  ·refine vc_block ?_
   refine vc_loop ?_
   refine xK [0, 1, 2] [(2, .d (I me)), (3, .d (.list 31 (near.map encNear))), (4, .d (I frame)), (5, .d (.ptr [I a0.nodes, I a0.data])), (6, .d (.ptr [.list 4 (t.uses.map encUse), .list 5 (t.grants.map encGrant), .list 3 (t.asks.map encAsk)])), (10, .own 0 0), (12, .own 1 0), (13, .d (I 0))] (σ' := [.cells [.d (.lit (.slice none 0 0)), .d (.lit (.slice none 0 0)), .d (.lit (.slice none 0 0))], .cells [.osl 2 0, .d (.list 5 (t.grants.map encGrant)), .d (.list 3 (t.asks.map encAsk))], .arr 61 4 ([].map encUse)]) (.cons rfl (.cells (.cons (.h rfl rfl) (.cons (.h rfl rfl) (.cons (.h rfl rfl) .nil)))) (.cons rfl (.cells (.cons (.h rfl rfl) (.cons (.h rfl rfl) (.cons (.h rfl rfl) .nil)))) (.cons rfl (.arr (by first | rfl | (simp <;> rfl))) .nil))) (xh5 (xh3 trivial)) ?_
   refine vcl_lenS 6 rfl (.ptr 0 rfl .here) (fun hlen => ?_)
   replace hlen := len_map hlen
   refine vcl_rec t.uses (fun (pre l : List Use) (s : List Use) => r13Take_L1 a0 me near frame l s) (some v6) (fun pre s => envOf [(2, .d (I me)), (3, .d (.list 31 (near.map encNear))), (4, .d (I frame)), (5, .d (.ptr [I a0.nodes, I a0.data])), (6, .d (.ptr [.list 4 (t.uses.map encUse), .list 5 (t.grants.map encGrant), .list 3 (t.asks.map encAsk)])), (10, .own 0 0), (12, .own 1 0), (13, .d (I (pre.length : Int)))]) (fun pre s => [.cells [.d (.lit (.slice none 0 0)), .d (.lit (.slice none 0 0)), .d (.lit (.slice none 0 0))], .cells [.osl 2 s.length, .d (.list 5 (t.grants.map encGrant)), .d (.list 3 (t.asks.map encAsk))], .arr 61 4 (s.map encUse)]) ?step1 ?done1 [] hv6
   case step1 =>
    rintro pre x5 l p3 hpre hlt h ih
    have hprex5 := hpre
    replace h : r13Take_L1 a0 me near frame (x5 :: l) p3 = some v6 := h
    show VCL _ _ _ _ _ (envOf _) (_ :: _)
    obtain ⟨i4, hi⟩ : ∃ i : Int, i = (pre.length : Int) := ⟨_, rfl⟩
    have hix5 := hi
    rw [← hi]
    rw [r13Take_L1] at h
    refine vcl_unroll ?_
    refine vc_seq ?_
    refine xsr ?_
    iterate 3 refine xp ?_
    refine xl ?_
    refine xp ?_
    refine xq ?_
    refine vc_cond rfl (fun _ => ?_) (fun hf => absurd hf (by simp; omega))
    refine vc_skip ?_
    refine vc_seq ?_
    refine vc_block ?_
    refine xsr ?_
    iterate 3 refine xp ?_
    refine ri rfl rfl rfl rfl rfl rfl rfl (by omega) (by rw [hix5]; exact idxp hprex5) ?_
    refine xp ?_
    refine xa ?_
    refine xw ?_
    refine xq ?_
    refine xsr ?_
    iterate 3 refine xp ?_
    refine xR ?_
    refine xp ?_
    refine xR ?_
    iterate 2 refine xp ?_
    obtain ⟨v7, hv7, h⟩ := bindO h
    refine xc (r13Granted_ok a0 near x5.peer x5.cell me frame _ hv7) ?_
    iterate 3 refine xp ?_
    refine xa ?_
    refine xw ?_
    refine xp ?_
    refine xq ?_
    refine vc_seq ?_
    refine xk [0, 1, 2, 3] [(2, .d (I me)), (3, .d (.list 31 (near.map encNear))), (4, .d (I frame)), (5, .d (.ptr [I a0.nodes, I a0.data])), (6, .d (.ptr [.list 4 (t.uses.map encUse), .list 5 (t.grants.map encGrant), .list 3 (t.asks.map encAsk)])), (10, .own 0 0), (12, .own 1 0), (13, .d (I i4)), (14, .own 3 0), (15, .d (.ptr (encGrant v7.1).cells)), (16, .d (B v7.2))] (σ' := [.cells [.d (.lit (.slice none 0 0)), .d (.lit (.slice none 0 0)), .d (.lit (.slice none 0 0))], .cells [.osl 2 p3.length, .d (.list 5 (t.grants.map encGrant)), .d (.list 3 (t.asks.map encAsk))], .arr 61 4 (p3.map encUse), .cells [.d (I x5.cell.slot), .d (I x5.cell.offset), .d (I x5.peer), .d (I x5.stamp)]]) (.cons rfl (.cells (.cons (.h rfl rfl) (.cons (.h rfl rfl) (.cons (.h rfl rfl) .nil)))) (.cons rfl (.cells (.cons (.h rfl rfl) (.cons (.h rfl rfl) (.cons (.h rfl rfl) .nil)))) (.cons rfl (.arr (by first | rfl | (simp <;> rfl))) (.cons rfl (.cells (.cons (.h rfl rfl) (.cons (.h rfl rfl) (.cons (.h rfl rfl) (.cons (.h rfl rfl) .nil))))) .nil)))) (xh5 (xh3 (xh1 ⟨.z (.own' rfl (.cons .d (.cons .d (.cons .d (.cons .d (.cons .d .nil)))))) .refl, (xh1 trivial)⟩))) ?_
    refine xr ?_
    refine xp ?_
    refine xq ?_
    obtain ⟨v8, hv8, h⟩ := bindO h
    refine vc_midQ [(2, .d (I me)), (3, .d (.list 31 (near.map encNear))), (4, .d (I frame)), (5, .d (.ptr [I a0.nodes, I a0.data])), (6, .d (.ptr [.list 4 (t.uses.map encUse), .list 5 (t.grants.map encGrant), .list 3 (t.asks.map encAsk)])), (10, .own 0 0), (12, .own 1 0), (13, .d (I i4))] [.cells [.d (.lit (.slice none 0 0)), .d (.lit (.slice none 0 0)), .d (.lit (.slice none 0 0))], .cells [.osl 2 v8.length, .d (.list 5 (t.grants.map encGrant)), .d (.list 3 (t.asks.map encAsk))], .arr 61 4 (v8.map encUse)] ?_ ?_
    ·replace h := hv8; clear hv8
     cases c9 : v7.2 with
     | true =>
      have h := cT c9 h
      refine vc_condT rfl ?_
      refine xsr ?_
      iterate 3 refine xp ?_
      refine xw ?_
      refine xq ?_
      refine xk [0, 1, 2] [(2, .d (I me)), (3, .d (.list 31 (near.map encNear))), (4, .d (I frame)), (5, .d (.ptr [I a0.nodes, I a0.data])), (6, .d (.ptr [.list 4 (t.uses.map encUse), .list 5 (t.grants.map encGrant), .list 3 (t.asks.map encAsk)])), (10, .own 0 0), (12, .own 1 0), (13, .d (I i4)), (14, .d (.ptr [I x5.cell.slot, I x5.cell.offset, I x5.peer, I v7.1.stamp]))] (σ' := [.cells [.d (.lit (.slice none 0 0)), .d (.lit (.slice none 0 0)), .d (.lit (.slice none 0 0))], .cells [.osl 2 p3.length, .d (.list 5 (t.grants.map encGrant)), .d (.list 3 (t.asks.map encAsk))], .arr 61 4 (p3.map encUse)]) (.cons rfl (.cells (.cons (.h rfl rfl) (.cons (.h rfl rfl) (.cons (.h rfl rfl) .nil)))) (.cons rfl (.cells (.cons (.h rfl rfl) (.cons (.h rfl rfl) (.cons (.h rfl rfl) .nil)))) (.cons rfl (.arr (by first | rfl | (simp <;> rfl))) .nil))) (xh5 (xh3 ⟨.z (.own' rfl (.cons .d (.cons .d (.cons .d (.cons .d .nil))))) .refl, trivial⟩)) ?_
      refine xr ?_
      refine xp ?_
      refine xR ?_
      refine xp ?_
      refine xb ?_
      obtain ⟨g10, h⟩ := gd h; replace g10 := dT g10
      refine rap rfl rfl rfl rfl rfl rfl rfl rfl .list rfl rfl rfl rfl (by simp) (by simp; omega) (by simp; omega) ?_
      refine xp ?_
      refine xw ?_
      refine xq ?_
      cases h
      exact xm [0, 1, 2] ((.cons rfl (.cells (.cons (.h rfl rfl) (.cons (.h rfl rfl) (.cons (.h rfl rfl) .nil)))) (.cons rfl (.cells (.cons (.h (oslE rfl (by first | rfl | (simp <;> rfl))) rfl) (.cons (.h rfl rfl) (.cons (.h rfl rfl) .nil)))) (.cons rfl (.arr (by first | rfl | (simp <;> rfl))) .nil)))) (xh5 (xh3 trivial))
     | false =>
      have h := cF c9 h
      refine vc_condF rfl ?_
      refine vc_skip ?_
      cases h
      exact xm [0, 1, 2] ((.cons rfl (.cells (.cons (.h rfl rfl) (.cons (.h rfl rfl) (.cons (.h rfl rfl) .nil)))) (.cons rfl (.cells (.cons (.h (oslE rfl (by first | rfl | (simp <;> rfl))) rfl) (.cons (.h rfl rfl) (.cons (.h rfl rfl) .nil)))) (.cons rfl (.arr (by first | rfl | (simp <;> rfl))) .nil)))) (xh5 (xh3 trivial))
    ·refine xr ?_
     iterate 3 refine xp ?_
     refine xq ?_
     exact xv [0, 1, 2] (ih v8 h) (.cons rfl (.cells (.cons (.h rfl rfl) (.cons (.h rfl rfl) (.cons (.h rfl rfl) .nil)))) (.cons rfl (.cells (.cons (.h rfl rfl) (.cons (.h rfl rfl) (.cons (.h rfl rfl) .nil)))) (.cons rfl (.arr (by first | rfl | (simp <;> rfl))) .nil))) (xh5 (xh2 ⟨.e rfl (cntI hi hlt hlen), trivial⟩))
   case done1 =>
    rintro p3 h
    replace h : r13Take_L1 a0 me near frame [] p3 = some v6 := h
    rw [r13Take_L1] at h
    show VCL _ _ _ _ _ (envOf _) (_ :: _)
    refine vcl_unroll ?_
    refine vc_seq ?_
    refine xsr ?_
    iterate 3 refine xp ?_
    refine xl ?_
    refine xp ?_
    refine xq ?_
    refine vc_cond rfl (fun ht => absurd ht (by simp; try omega)) (fun _ => ?_)
    refine vc_exit ?_
    cases h
    exact xm [0, 1, 2] (.cons rfl (.cells (.cons (.h rfl rfl) (.cons (.h rfl rfl) (.cons (.h rfl rfl) .nil)))) (.cons rfl (.cells (.cons (.h rfl rfl) (.cons (.h rfl rfl) (.cons (.h rfl rfl) .nil)))) (.cons rfl (.arr (by first | rfl | (simp <;> rfl))) .nil))) (xh5 (xh2 trivial))
  ·have h := hLv6
   refine vc_seq ?_
   refine vc_seq ?_
   refine xk [0, 1] [(2, .d (I me)), (3, .d (.list 31 (near.map encNear))), (4, .d (I frame)), (5, .d (.ptr [I a0.nodes, I a0.data])), (6, .d (.ptr [.list 4 (t.uses.map encUse), .list 5 (t.grants.map encGrant), .list 3 (t.asks.map encAsk)])), (10, .own 0 0), (12, .own 1 0)] (σ' := [.cells [.d (.lit (.slice none 0 0)), .d (.lit (.slice none 0 0)), .d (.lit (.slice none 0 0))], .cells [.d (.list 4 (v6.map encUse)), .d (.list 5 (t.grants.map encGrant)), .d (.list 3 (t.asks.map encAsk))]]) (.cons rfl (.cells (.cons (.h rfl rfl) (.cons (.h rfl rfl) (.cons (.h rfl rfl) .nil)))) (.cons rfl (.cells (.cons (.z (.osl rfl (by simp)) .refl) (.cons (.h rfl rfl) (.cons (.h rfl rfl) .nil)))) .nil)) (xh5 (xh2 trivial)) ?_
   refine xr ?_
   refine xp ?_
   refine xq ?_
   obtain ⟨v16, hv16, hLv16⟩ := bindO h
   refine vc_midQ [(10, .own 0 0), (12, .own 1 0)] [.cells [.d (.lit (.slice none 0 0)), .d (.lit (.slice none 0 0)), .d (.lit (.slice none 0 0))], .cells [.d (.list 4 (v16.1.map encUse)), .d (.list 5 (v16.2.1.map encGrant)), .d (.list 3 (v16.2.2.map encAsk))]] ?_ ?_
   ·refine vc_block ?_
    refine vc_loop ?_
    refine xK [0, 1] [(2, .d (I me)), (3, .d (.list 31 (near.map encNear))), (4, .d (I frame)), (5, .d (.ptr [I a0.nodes, I a0.data])), (6, .d (.ptr [.list 4 (t.uses.map encUse), .list 5 (t.grants.map encGrant), .list 3 (t.asks.map encAsk)])), (10, .own 0 0), (12, .own 1 0), (17, .d (I 0))] (σ' := [.cells [.d (.lit (.slice none 0 0)), .d (.lit (.slice none 0 0)), .d (.lit (.slice none 0 0))], .cells [.d (.list 4 (v6.map encUse)), .d (.list 5 (t.grants.map encGrant)), .d (.list 3 (t.asks.map encAsk))]]) (.cons rfl (.cells (.cons (.h rfl rfl) (.cons (.h rfl rfl) (.cons (.h rfl rfl) .nil)))) (.cons rfl (.cells (.cons (.h rfl rfl) (.cons (.h rfl rfl) (.cons (.h rfl rfl) .nil)))) .nil)) (xh5 (xh3 trivial)) ?_
    refine vcl_len 3 rfl (fun hlen => ?_)
    replace hlen := len_map hlen
    refine vcl_rec near (fun (pre l : List Near) (s : List Use × List Grant × List Ask) => r13Take_L2 fuel a0 t me frame l s.1 s.2.1 s.2.2) (some v16) (fun pre s => envOf [(2, .d (I me)), (3, .d (.list 31 (near.map encNear))), (4, .d (I frame)), (5, .d (.ptr [I a0.nodes, I a0.data])), (6, .d (.ptr [.list 4 (t.uses.map encUse), .list 5 (t.grants.map encGrant), .list 3 (t.asks.map encAsk)])), (10, .own 0 0), (12, .own 1 0), (17, .d (I (pre.length : Int)))]) (fun pre s => [.cells [.d (.lit (.slice none 0 0)), .d (.lit (.slice none 0 0)), .d (.lit (.slice none 0 0))], .cells [.d (.list 4 (s.1.map encUse)), .d (.list 5 (s.2.1.map encGrant)), .d (.list 3 (s.2.2.map encAsk))]]) ?step2 ?done2 (v6, t.grants, t.asks) hv16
    case step2 =>
     rintro pre x15 l ⟨p11, p12, p13⟩ hpre hlt h ih
     have hprex15 := hpre
     replace h : r13Take_L2 fuel a0 t me frame (x15 :: l) p11 p12 p13 = some v16 := h
     show VCL _ _ _ _ _ (envOf _) (_ :: _)
     obtain ⟨i14, hi⟩ : ∃ i : Int, i = (pre.length : Int) := ⟨_, rfl⟩
     have hix15 := hi
     rw [← hi]
     rw [r13Take_L2] at h
     refine vcl_unroll ?_
     refine vc_seq ?_
     refine xsr ?_
     iterate 2 refine xp ?_
     refine xl ?_
     refine xp ?_
     refine xq ?_
     refine vc_cond rfl (fun _ => ?_) (fun hf => absurd hf (by simp; omega))
     refine vc_skip ?_
     refine vc_seq ?_
     refine vc_block ?_
     refine xsr ?_
     iterate 2 refine xp ?_
     refine ri rfl rfl rfl rfl rfl rfl rfl (by omega) (by rw [hix15]; exact idxp hprex15) ?_
     iterate 4 refine xp ?_
     refine xq ?_
     refine xsr ?_
     iterate 2 refine xp ?_
     refine xc (r13partner_ok t x15.src _ rfl) ?_
     refine xp ?_
     refine xq ?_
     refine xsr ?_
     refine xp ?_
     refine xq ?_
     obtain ⟨v21, hv21, hLv21⟩ := bindO h
     refine vc_midQ [(2, .d (I me)), (3, .d (.list 31 (near.map encNear))), (4, .d (I frame)), (5, .d (.ptr [I a0.nodes, I a0.data])), (6, .d (.ptr [.list 4 (t.uses.map encUse), .list 5 (t.grants.map encGrant), .list 3 (t.asks.map encAsk)])), (10, .own 0 0), (12, .own 1 0), (17, .d (I i14))] [.cells [.d (.lit (.slice none 0 0)), .d (.lit (.slice none 0 0)), .d (.lit (.slice none 0 0))], .cells [.d (.list 4 (v21.2.1.map encUse)), .d (.list 5 (v21.2.2.1.map encGrant)), .d (.list 3 (v21.2.2.2.map encAsk))]] ?_ ?_
     ·refine vc_block ?_
      refine vc_loop ?_
      refine xK [0, 1] [(2, .d (I me)), (3, .d (.list 31 (near.map encNear))), (4, .d (I frame)), (5, .d (.ptr [I a0.nodes, I a0.data])), (6, .d (.ptr [.list 4 (t.uses.map encUse), .list 5 (t.grants.map encGrant), .list 3 (t.asks.map encAsk)])), (10, .own 0 0), (12, .own 1 0), (17, .d (I i14)), (18, .d (I x15.src)), (19, .d (B (r13partner t x15.src))), (20, .d (I 0))] (σ' := [.cells [.d (.lit (.slice none 0 0)), .d (.lit (.slice none 0 0)), .d (.lit (.slice none 0 0))], .cells [.d (.list 4 (p11.map encUse)), .d (.list 5 (p12.map encGrant)), .d (.list 3 (p13.map encAsk))]]) (.cons rfl (.cells (.cons (.h rfl rfl) (.cons (.h rfl rfl) (.cons (.h rfl rfl) .nil)))) (.cons rfl (.cells (.cons (.h rfl rfl) (.cons (.h rfl rfl) (.cons (.h rfl rfl) .nil)))) .nil)) (xh5 (xh5 (xh1 trivial))) ?_
      refine vcl_fuel (fun (k : Nat) (s : Int × List Use × List Grant × List Ask) => r13Take_L3 a0 t me frame x15 k s.1 s.2.1 s.2.2.1 s.2.2.2) v21 (fun s => envOf [(2, .d (I me)), (3, .d (.list 31 (near.map encNear))), (4, .d (I frame)), (5, .d (.ptr [I a0.nodes, I a0.data])), (6, .d (.ptr [.list 4 (t.uses.map encUse), .list 5 (t.grants.map encGrant), .list 3 (t.asks.map encAsk)])), (10, .own 0 0), (12, .own 1 0), (17, .d (I i14)), (18, .d (I x15.src)), (19, .d (B (r13partner t x15.src))), (20, .d (I s.1))]) (fun s => [.cells [.d (.lit (.slice none 0 0)), .d (.lit (.slice none 0 0)), .d (.lit (.slice none 0 0))], .cells [.d (.list 4 (s.2.1.map encUse)), .d (.list 5 (s.2.2.1.map encGrant)), .d (.list 3 (s.2.2.2.map encAsk))]]) (fun _ => rfl) ?step3 fuel (0, p11, p12, p13) hv21
      case step3 =>
       rintro k ⟨p17, p18, p19, p20⟩ h ih
       replace h : r13Take_L3 a0 t me frame x15 (k + 1) p17 p18 p19 p20 = some v21 := h
       rw [r13Take_L3] at h
       show VCL _ _ _ _ _ (envOf _) (_ :: _)
       refine vcl_unroll ?_
       refine vc_seq ?_
       refine vc_seq ?_
       refine vc_midQ [(2, .d (I me)), (3, .d (.list 31 (near.map encNear))), (4, .d (I frame)), (5, .d (.ptr [I a0.nodes, I a0.data])), (6, .d (.ptr [.list 4 (t.uses.map encUse), .list 5 (t.grants.map encGrant), .list 3 (t.asks.map encAsk)])), (10, .own 0 0), (12, .own 1 0), (17, .d (I i14)), (18, .d (I x15.src)), (19, .d (B (r13partner t x15.src))), (20, .d (I p17)), (99, .d (B ((decide (p17 < (x15.t.grants.length : Int))) && (r13partner t x15.src))))] [.cells [.d (.lit (.slice none 0 0)), .d (.lit (.slice none 0 0)), .d (.lit (.slice none 0 0))], .cells [.d (.list 4 (p18.map encUse)), .d (.list 5 (p19.map encGrant)), .d (.list 3 (p20.map encAsk))]] ?_ ?_
       ·refine xr ?_
        iterate 3 refine xp ?_
        refine ri rfl rfl rfl rfl rfl rfl rfl (by omega) (by rw [hix15]; exact idxp hprex15) ?_
        iterate 3 refine xp ?_
        refine xl ?_
        iterate 2 refine xp ?_
        cases c22 : decide (p17 < (x15.t.grants.length : Int)) with
        | true =>
         iterate 2 refine xp ?_
         refine xq ?_
         exact xm [0, 1] ((.cons rfl (.cells (.cons (.h rfl rfl) (.cons (.h rfl rfl) (.cons (.h rfl rfl) .nil)))) (.cons rfl (.cells (.cons (.h rfl rfl) (.cons (.h rfl rfl) (.cons (.h rfl rfl) .nil)))) .nil))) (xh5 (xh5 (xh2 trivial)))
        | false =>
         refine xs ?_
         refine xp ?_
         refine xq ?_
         exact xm [0, 1] ((.cons rfl (.cells (.cons (.h rfl rfl) (.cons (.h rfl rfl) (.cons (.h rfl rfl) .nil)))) (.cons rfl (.cells (.cons (.h rfl rfl) (.cons (.h rfl rfl) (.cons (.h rfl rfl) .nil)))) .nil))) (xh5 (xh5 (xh2 trivial)))
       ·cases c23 : ((decide (p17 < (x15.t.grants.length : Int))) && (r13partner t x15.src)) with
        | true =>
         have h := cT c23 h
         refine vc_condT rfl ?_
         refine vc_skip ?_
         refine vc_seq ?_
         refine vc_block ?_
         refine xsr ?_
         iterate 2 refine xp ?_
         refine ri rfl rfl rfl rfl rfl rfl rfl (by omega) (by rw [hix15]; exact idxp hprex15) ?_
         iterate 4 refine xp ?_
         obtain ⟨v24, hv24, h⟩ := bindO h
         refine ri rfl rfl rfl rfl rfl rfl rfl (elt0 hv24) (eltm _ hv24) ?_
         refine xp ?_
         refine xa ?_
         refine xw ?_
         refine xq ?_
         refine vc_seq ?_
         refine xk [0, 1] [(2, .d (I me)), (3, .d (.list 31 (near.map encNear))), (4, .d (I frame)), (5, .d (.ptr [I a0.nodes, I a0.data])), (6, .d (.ptr [.list 4 (t.uses.map encUse), .list 5 (t.grants.map encGrant), .list 3 (t.asks.map encAsk)])), (10, .own 0 0), (12, .own 1 0), (17, .d (I i14)), (18, .d (I x15.src)), (19, .d (B (r13partner t x15.src))), (20, .d (I p17)), (21, .d (.ptr (encGrant v24).cells))] (σ' := [.cells [.d (.lit (.slice none 0 0)), .d (.lit (.slice none 0 0)), .d (.lit (.slice none 0 0))], .cells [.d (.list 4 (p18.map encUse)), .d (.list 5 (p19.map encGrant)), .d (.list 3 (p20.map encAsk))]]) (.cons rfl (.cells (.cons (.h rfl rfl) (.cons (.h rfl rfl) (.cons (.h rfl rfl) .nil)))) (.cons rfl (.cells (.cons (.h rfl rfl) (.cons (.h rfl rfl) (.cons (.h rfl rfl) .nil)))) .nil)) (xh5 (xh5 (xh1 ⟨.z (.own' rfl (.cons .d (.cons .d (.cons .d (.cons .d (.cons .d .nil)))))) .refl, trivial⟩))) ?_
         refine xr ?_
         iterate 4 refine xp ?_
         refine xc (mine_ok a0 v24 me frame _ rfl) ?_
         refine xp ?_
         refine xq ?_
         refine vc_seq ?_
         refine xsr ?_
         iterate 2 refine xp ?_
         refine xq ?_
         cases c25 : (mine a0 v24 me frame) with
         | true =>
          have h := cT c25 h
          refine vc_condF rfl ?_
          refine vc_skip ?_
          refine xsr ?_
          refine xR ?_
          iterate 7 refine xp ?_
          obtain ⟨v26, hv26, h⟩ := bindO h
          refine xc (r12AddUse_ok ⟨p18, p19, p20⟩ a0 ⟨⟨v24.cell.slot, v24.cell.offset⟩, x15.src, v24.stamp⟩ _ hv26) ?_
          iterate 3 refine xp ?_
          refine xa ?_
          refine xw ?_
          refine xp ?_
          refine xq ?_
          refine vc_seq ?_
          refine xk [0, 1] [(2, .d (I me)), (3, .d (.list 31 (near.map encNear))), (4, .d (I frame)), (5, .d (.ptr [I a0.nodes, I a0.data])), (6, .d (.ptr [.list 4 (t.uses.map encUse), .list 5 (t.grants.map encGrant), .list 3 (t.asks.map encAsk)])), (10, .own 0 0), (12, .own 1 0), (17, .d (I i14)), (18, .d (I x15.src)), (19, .d (B (r13partner t x15.src))), (20, .d (I p17)), (23, .d (.ptr [.list 4 (v26.1.uses.map encUse), .list 5 (v26.1.grants.map encGrant), .list 3 (v26.1.asks.map encAsk)])), (24, .d (I v26.2))] (σ' := [.cells [.d (.lit (.slice none 0 0)), .d (.lit (.slice none 0 0)), .d (.lit (.slice none 0 0))], .cells [.d (.list 4 (p18.map encUse)), .d (.list 5 (p19.map encGrant)), .d (.list 3 (p20.map encAsk))]]) (.cons rfl (.cells (.cons (.h rfl rfl) (.cons (.h rfl rfl) (.cons (.h rfl rfl) .nil)))) (.cons rfl (.cells (.cons (.h rfl rfl) (.cons (.h rfl rfl) (.cons (.h rfl rfl) .nil)))) .nil)) (xh5 (xh5 (xh1 ⟨.z (.own' rfl (.cons .d (.cons .d (.cons .d .nil)))) .refl, (xh1 trivial)⟩))) ?_
          refine xr ?_
          iterate 2 refine xp ?_
          refine xq ?_
          refine vc_midQ [(2, .d (I me)), (3, .d (.list 31 (near.map encNear))), (4, .d (I frame)), (5, .d (.ptr [I a0.nodes, I a0.data])), (6, .d (.ptr [.list 4 (t.uses.map encUse), .list 5 (t.grants.map encGrant), .list 3 (t.asks.map encAsk)])), (10, .own 0 0), (12, .own 1 0), (17, .d (I i14)), (18, .d (I x15.src)), (19, .d (B (r13partner t x15.src))), (20, .d (I p17))] [.cells [.d (.lit (.slice none 0 0)), .d (.lit (.slice none 0 0)), .d (.lit (.slice none 0 0))], .cells [.d (.list 4 ((cond (v26.2 == 0) (v26.1.uses) (p18)).map encUse)), .d (.list 5 ((cond (v26.2 == 0) (v26.1.grants) (p19)).map encGrant)), .d (.list 3 ((cond (v26.2 == 0) (v26.1.asks) (p20)).map encAsk))]] ?_ ?_
          ·cases c27 : (v26.2 == 0) with
           | true =>
            refine vc_condT rfl ?_
            refine xr ?_
            refine xp ?_
            refine xw ?_
            refine xq ?_
            exact xm [0, 1] ((.cons rfl (.cells (.cons (.h rfl rfl) (.cons (.h rfl rfl) (.cons (.h rfl rfl) .nil)))) (.cons rfl (.cells (.cons (.h rfl rfl) (.cons (.h rfl rfl) (.cons (.h rfl rfl) .nil)))) .nil))) (xh5 (xh5 (xh1 trivial)))
           | false =>
            refine vc_condF rfl ?_
            refine vc_skip ?_
            exact xm [0, 1] ((.cons rfl (.cells (.cons (.h rfl rfl) (.cons (.h rfl rfl) (.cons (.h rfl rfl) .nil)))) (.cons rfl (.cells (.cons (.h rfl rfl) (.cons (.h rfl rfl) (.cons (.h rfl rfl) .nil)))) .nil))) (xh5 (xh5 (xh1 trivial)))
          ·refine xr ?_
           iterate 3 refine xp ?_
           refine xq ?_
           exact xv [0, 1] (ih (IntKind.i64.wrap (p17 + 1), (cond (v26.2 == 0) (v26.1.uses) (p18)), (cond (v26.2 == 0) (v26.1.grants) (p19)), (cond (v26.2 == 0) (v26.1.asks) (p20))) h) (.cons rfl (.cells (.cons (.h rfl rfl) (.cons (.h rfl rfl) (.cons (.h rfl rfl) .nil)))) (.cons rfl (.cells (.cons (.h rfl rfl) (.cons (.h rfl rfl) (.cons (.h rfl rfl) .nil)))) .nil)) (xh5 (xh5 (xh1 trivial)))
         | false =>
          have h := cF c25 h
          refine vc_condT rfl ?_
          refine vc_exit ?_
          refine xr ?_
          iterate 3 refine xp ?_
          refine xq ?_
          exact xv [0, 1] (ih (IntKind.i64.wrap (p17 + 1), p18, p19, p20) h) (.cons rfl (.cells (.cons (.h rfl rfl) (.cons (.h rfl rfl) (.cons (.h rfl rfl) .nil)))) (.cons rfl (.cells (.cons (.h rfl rfl) (.cons (.h rfl rfl) (.cons (.h rfl rfl) .nil)))) .nil)) (xh5 (xh5 (xh1 trivial)))
        | false =>
         have h := cF c23 h
         refine vc_condF rfl ?_
         refine vc_exit ?_
         cases h
         exact xm [0, 1] (.cons rfl (.cells (.cons (.h rfl rfl) (.cons (.h rfl rfl) (.cons (.h rfl rfl) .nil)))) (.cons rfl (.cells (.cons (.h rfl rfl) (.cons (.h rfl rfl) (.cons (.h rfl rfl) .nil)))) .nil)) (xh5 (xh3 trivial))
     ·have h := hLv21
      refine xr ?_
      iterate 3 refine xp ?_
      refine xq ?_
      exact xv [0, 1] (ih (v21.2.1, v21.2.2.1, v21.2.2.2) h) (.cons rfl (.cells (.cons (.h rfl rfl) (.cons (.h rfl rfl) (.cons (.h rfl rfl) .nil)))) (.cons rfl (.cells (.cons (.h rfl rfl) (.cons (.h rfl rfl) (.cons (.h rfl rfl) .nil)))) .nil)) (xh5 (xh2 ⟨.e rfl (cntI hi hlt hlen), trivial⟩))
    case done2 =>
     rintro ⟨p11, p12, p13⟩ h
     replace h : r13Take_L2 fuel a0 t me frame [] p11 p12 p13 = some v16 := h
     rw [r13Take_L2] at h
     show VCL _ _ _ _ _ (envOf _) (_ :: _)
     refine vcl_unroll ?_
     refine vc_seq ?_
     refine xsr ?_
     iterate 2 refine xp ?_
     refine xl ?_
     refine xp ?_
     refine xq ?_
     refine vc_cond rfl (fun ht => absurd ht (by simp; try omega)) (fun _ => ?_)
     refine vc_exit ?_
     cases h
     exact xm [0, 1] (.cons rfl (.cells (.cons (.h rfl rfl) (.cons (.h rfl rfl) (.cons (.h rfl rfl) .nil)))) (.cons rfl (.cells (.cons (.h rfl rfl) (.cons (.h rfl rfl) (.cons (.h rfl rfl) .nil)))) .nil)) (xh2 trivial)
   ·have h := hLv16
    refine xsr ?_
    refine xR ?_
    refine xw ?_
    refine xq ?_
    replace h := Option.some.inj h
    refine vc_ret ⟨.inr rfl, [encTable ⟨v16.1, v16.2.1, v16.2.2⟩], (.cons rfl ⟨_, .d, .refl⟩ .nil), ?_⟩
    first | (rw [← h]; done) | (rw [← h]; rfl) | (rw [← h]; simp)
 | false =>
  have h := cF c2 h
  refine vc_condT rfl ?_
  refine xsr ?_
  refine xp ?_
  refine xw ?_
  refine xq ?_
  replace h := Option.some.inj h
  refine vc_ret ⟨.inr rfl, [encTable t], (.cons rfl ⟨_, .d, .refl⟩ .nil), ?_⟩
  first | (rw [← h]; done) | (rw [← h]; rfl) | (rw [← h]; simp)
end Go.VM.Tryz
