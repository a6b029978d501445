/-
  Proved: BargainSettlingUptoSaid, for every input whose bulk is at most 1048576 values; no further condition. (This text is one part of the proof.)
-/
import Derived.Test.YthegffpdongaoaaGreatV01
import Derived.Test.YthegffpdongaoaaGreatProg
import Derived.KernelRfl
set_option linter.unusedVariables false
set_option linter.unusedSimpArgs false
set_option linter.unusedSectionVars false
namespace Go.VM.Tryz
open Go.Proofs
def rows : List (Option TI) := [
 none, tf, ti .i64 8, ti .i64 8, tb, ti .u8 1, none, none, none, none, none, none, none, none, none, none, none, none, none, none, none, ti .i32 4, tt [(3, 0), (3, 1)] 2 16 [zi, zi] true [],
 tt [(3, 0), (3, 1)] 2 16 [zi, zi] true [], tl 61, tl 59, tl 63, tt [(24, 0), (25, 1), (26, 2)] 3 72 [zs, zs, zs] false [], tt [(24, 0), (25, 1), (26, 2)] 3 72 [zs, zs, zs] false [], tl 55, tf, tf, tf,
 tf, tf, tf, tf, tf, tt [(3, 0), (3, 1)] 2 16 [zi, zi] true [], tt [(3, 0), (3, 1)] 2 16 [zi, zi] true [], tt [(3, 0), (3, 1)] 2 16 [zi, zi] true [], tt [(3, 0), (3, 1)] 2 16 [zi, zi] true [], tl 215,
 tl 217, tl 3, ti .u64 8, tt [(3, 0), (3, 1), (45, 2), (3, 3)] 4 32 [zi, zi, .lit (.int .u64 0), zi] true [], tt [(3, 0), (3, 1), (45, 2), (3, 3)] 4 32 [zi, zi, .lit (.int .u64 0), zi] true [], tl 5,
 tl 45, tt [(3, 0), (3, 1), (48, 2), (49, 3)] 4 64 [zi, zi, zs, zs] false [], tt [(3, 0), (3, 1), (48, 2), (49, 3)] 4 64 [zi, zi, zs, zs] false [],
 tt [(3, 0), (3, 1), (3, 2), (3, 3), (3, 4), (3, 5), (39, 6), (3, 8), (41, 9), (24, 11), (25, 12), (26, 13), (42, 14), (4, 15), (43, 16), (43, 17), (44, 18), (47, 19), (3, 23), (3, 24), (51, 25), (4, 29)] 30 384 [zi, zi, zi, zi, zi, zi, zi, zi, zi, zi, zi, zs, zs, zs, zs, zb, zs, zs, zs, zi, zi, .lit (.int .u64 0), zi, zi, zi, zi, zi, zs, zs, zb] false [],
 tt [(3, 0), (3, 1), (3, 2), (3, 3), (3, 4), (3, 5), (39, 6), (3, 8), (41, 9), (24, 11), (25, 12), (26, 13), (42, 14), (4, 15), (43, 16), (43, 17), (44, 18), (47, 19), (3, 23), (3, 24), (51, 25), (4, 29)] 30 384 [zi, zi, zi, zi, zi, zi, zi, zi, zi, zi, zi, zs, zs, zs, zs, zb, zs, zs, zs, zi, zi, .lit (.int .u64 0), zi, zi, zi, zi, zi, zs, zs, zb] false [],
 tt [(3, 0), (53, 1)] 31 392 [zi, zi, zi, zi, zi, zi, zi, zi, zi, zi, zi, zi, zs, zs, zs, zs, zb, zs, zs, zs, zi, zi, .lit (.int .u64 0), zi, zi, zi, zi, zi, zs, zs, zb] false [],
 tt [(3, 0), (53, 1)] 31 392 [zi, zi, zi, zi, zi, zi, zi, zi, zi, zi, zi, zi, zs, zs, zs, zs, zb, zs, zs, zs, zi, zi, .lit (.int .u64 0), zi, zi, zi, zi, zi, zs, zs, zb] false [],
 tt [(3, 0), (3, 1)] 2 16 [zi, zi] true [], tt [(3, 0), (3, 1)] 2 16 [zi, zi] true [], tt [(57, 0), (3, 2), (3, 3), (3, 4)] 5 40 [zi, zi, zi, zi, zi] true [],
 tt [(57, 0), (3, 2), (3, 3), (3, 4)] 5 40 [zi, zi, zi, zi, zi] true [], tt [(57, 0), (3, 2), (3, 3)] 4 32 [zi, zi, zi, zi] true [], tt [(57, 0), (3, 2), (3, 3)] 4 32 [zi, zi, zi, zi] true [],
 tt [(57, 0), (3, 2)] 3 24 [zi, zi, zi] true [], tt [(57, 0), (3, 2)] 3 24 [zi, zi, zi] true [], tf, tf, tf, tf, tf, tf, tl 4,
 tt [(28, 0), (28, 3), (29, 6), (29, 7)] 8 192 [zs, zs, zs, zs, zs, zs, zs, zs] false [],
 tt [(28, 0), (28, 3), (29, 6), (29, 7)] 8 192 [zs, zs, zs, zs, zs, zs, zs, zs] false [("slotmesh/slotmeshlaw13.held", 29), ("slotmesh/slotmeshlaw13.next", 28), ("slotmesh/slotmeshlaw13.turn", 30)], tf,
 tf, tf, tf, tf, tf, tf, tf, tf, tp 103, none, tf, tf, none, tf, tf, tf, tf, tf, tf, tf, tf, tf, tf, tf, tf, tf, tf, tf, tt [(23, 0), (3, 2), (29, 3), (3, 4)] 5 56 [zi, zi, zi, zs, zi] false [],
 tt [(23, 0), (3, 2), (29, 3), (3, 4)] 5 56 [zi, zi, zi, zs, zi] false [], tf, some { td := .int .i64, size := 1, bytes := 8, zero := .lit (.int .i64 0), eqok := true, meths := [("Error", 166)] }, none,
 tf, some { td := .map 3 4, size := 1, bytes := 8, zero := .lit (.map none), eqok := false, meths := [] }, tf, tf, tf, tf, tf, tf, tf, tf, tf, none, tf, tf, tf, tf, tf, tf, tf, tf, tf, tf, tf, tf, tf,
 tf, tf, tf, tf, tf, ti .u64 8, tf, tf, tt [(57, 0), (3, 2), (3, 3), (3, 4)] 5 40 [zi, zi, zi, zi, zi] true [("slotmesh/cells.cell", 167), ("slotmesh/cells.valid", 168)], tf, tf, tf, tf, tf, tf, tf, tf,
 tt [(57, 0), (3, 2), (3, 3)] 4 32 [zi, zi, zi, zi] true [("slotmesh/cells.cell", 170), ("slotmesh/cells.valid", 171)], tf, tf, tf, tf,
 some { td := .map 3 3, size := 1, bytes := 8, zero := .lit (.map none), eqok := false, meths := [] }, tf, tl 149, tf, tf, tl 140, tf, tf,
 tt [(57, 0), (3, 2)] 3 24 [zi, zi, zi] true [("slotmesh/cells.cell", 172), ("slotmesh/cells.valid", 173)], tl 162, tf, tf, tf, ti .i64 8, none, tf, tf, tf, none, tf, tf, ti .u32 4, tf, tf, tf,
 some { td := .iface, size := 1, bytes := 16, zero := .lit (.nilIface), eqok := false, meths := [] }, some { td := .iface, size := 1, bytes := 16, zero := .lit (.nilIface), eqok := false, meths := [] },
 tf, tf, tf, tf, tf, ti .u64 8, tf, tf, tf, tp 3, tf, tl 25, tf, tl 24, tf, tp 186, none, tf]
def T : Tab := fun t => rows.getD t none
theorem tabOk : TabOk Tryz.prog T := tabOk_B (l := rows) (by kernel_rfl) (by kernel_rfl)
theorem sized : Sized T := sized_of (l := rows) (by kernel_rfl)
theorem follows : Tryz.prog.follows .mixedOrders = true := by kernel_rfl
end Go.VM.Tryz
namespace Go.VM
section
variable {P : Program} {T : Tab} {m N : Nat} {ops : Array Oper} {chk : List Tag → Bool} {acc : List Tag} {o : Oper} {l : List Oper} {Q : Env → Sig → Prop} {E : Env} {σ σ1 σ' : Sig} {t : Tmp} {v : V}
theorem xp (k : RunQ P T N ops chk (.pure :: acc) l Q (upd1 E t v) σ) (hg : guardV ops E o = some true := by rfl) (h : pureOp T o.op (ev E) = some v := by rfl) (hd : o.dst = some t := by rfl) (hN : Nat.blt t N = true := by rfl) : RunQ P T N ops chk acc (o :: l) Q E σ := rp hg h hd hN k
theorem xs (k : RunQ P T N ops chk (.pure :: acc) l Q (upd1 E t (.d (.lit undef))) σ) (hg : guardV ops E o = some false := by rfl) (hd : o.dst = some t := by rfl) (hN : Nat.blt t N = true := by rfl) : RunQ P T N ops chk acc (o :: l) Q E σ := rs hg hd hN k
theorem xn (k : RunQ P T N ops chk (.pure :: acc) l Q E σ) (hg : guardV ops E o = some false := by rfl) (hd : o.dst = none := by rfl) : RunQ P T N ops chk acc (o :: l) Q E σ := rsn hg hd k
theorem xR (k : RunQ P T N ops chk (.read :: acc) l Q (upd1 E t v) σ) (hg : guardV ops E o = some true := by rfl) (h : readOp T o.op (ev E) σ = some v := by rfl) (hd : o.dst = some t := by rfl) (hN : Nat.blt t N = true := by rfl) : RunQ P T N ops chk acc (o :: l) Q E σ := rr hg h hd hN k
theorem xa {ob : Obj} (k : RunQ P T N ops chk (.alloc :: acc) l Q (upd1 E t v) (σ ++ [ob])) (hg : guardV ops E o = some true := by rfl) (h : allocOp T o.op (ev E) σ.length = some (v, ob) := by rfl) (hd : o.dst = some t := by rfl) (hN : Nat.blt t N = true := by rfl) : RunQ P T N ops chk acc (o :: l) Q E σ := ra hg h hd hN k
theorem xw (k : RunQ P T N ops chk (.write :: acc) l Q E σ1) (hg : guardV ops E o = some true := by rfl) (h : writeOp T o.op (ev E) σ = some σ1 := by rfl) (hd : o.dst = none := by rfl) : RunQ P T N ops chk acc (o :: l) Q E σ := rw_ hg h hd k
theorem xb {s : TypeId} {n es : Nat} {parts : Array (Nat × Operand)} {ds : List D} (k : RunQ P T N ops chk (.pure :: acc) l Q (upd1 E t (.d (.list es ds))) σ) (hg : guardV ops E o = some true := by rfl) (h : o.op = .buildSlice s n parts := by rfl) (he : elemSize T s = some es := by rfl) (hd : o.dst = some t := by rfl) (hN : Nat.blt t N = true := by rfl) (h0 : Nat.blt 0 es = true := by rfl) (hn : Nat.ble (n * es) 16777216 = true := by rfl) (hp : parts.toList.map (·.1) = List.range n := by rfl)
  (ha : allD (parts.toList.map fun p => ev E p.2) = some ds := by rfl) (hs : (ds.all fun d => d.cells.length == es && (V.d d).whole) = true := by rfl) : RunQ P T N ops chk acc (o :: l) Q E σ := rb hg h he hd hN h0 hn hp ha hs k
theorem xc {g : FuncId} {ds : List D} {res : D} (hp : PCalls P g ds res) (k : RunQ P T N ops chk (.pure :: acc) l Q (upd1 E t (.d res)) σ) (hg : guardV ops E o = some true := by rfl) (h : callD o.op (ev E) = some (g, ds) := by rfl) (hd : o.dst = some t := by rfl) (hN : Nat.blt t N = true := by rfl) : RunQ P T N ops chk acc (o :: l) Q E σ := rc hg h hd hN hp k
theorem xl {c : Call} {x : Operand} {ty : TypeId} {α : Type} {es : Nat} {f : α → D} {ls : List α} (k : RunQ P T N ops chk (.pure :: acc) l Q (upd1 E t (.d (.lit (.int .i64 ls.length)))) σ) (hg : guardV ops E o = some true := by rfl) (h : o.op = .call c := by rfl) (hc : c.callee = .builtin .len := by rfl) (ha : c.args = #[x] := by rfl) (ht : c.argTypes = #[ty] := by rfl) (hx : ev E x = .d (.list es (ls.map f)) := by rfl) (hT : sliceB T ty = true := by rfl) (hd : o.dst = some t := by rfl) (hN : Nat.blt t N = true := by rfl) : RunQ P T N ops chk acc (o :: l) Q E σ := rlen hg h hc ha ht hx hT hd hN k
theorem xi {s : TypeId} {x i : Operand} {es : Nat} {ds : List D} {k : IntKind} {n : Int} {y : D} (h0 : 0 ≤ n) (hy : ds[n.toNat]? = some y) (q : RunQ P T N ops chk (.pure :: acc) l Q (upd1 E t (.d (.ptr y.cells))) σ) (hg : guardV ops E o = some true := by rfl) (h : o.op = .indexAddr s x i := by rfl) (hx : ev E x = .d (.list es ds) := by rfl) (hi : ev E i = .d (.lit (.int k n)) := by rfl) (he : elemSize T s = some es := by rfl) (hd : o.dst = some t := by rfl) (hN : Nat.blt t N = true := by rfl) : RunQ P T N ops chk acc (o :: l) Q E σ := ri hg h hx hi he hd hN h0 hy q
theorem xq (h : Q E σ) (hc : chk acc.reverse = true := by kernel_rfl) : RunQ P T N ops chk acc [] Q E σ := rq_nil hc h
variable {c : Code} {Q : Post} {ks : List Nat} {L : List (Nat × V)} {a a1 a2 a3 a4 a5 : V} {t1 t2 t3 t4 t5 : Nat}
theorem xv (ks : List Nat) (k : VCL P m N c Q (envOf L) σ') (hco : CoL σ ks ks σ') (he : CvE σ ks E L) (hm : ks.take m = List.range m := by rfl) (hn : ks.Nodup := by decide) : VCL P m N c Q E σ := vcl_cut ks L hm hn hco he k
theorem xk (ks : List Nat) (L : List (Nat × V)) (hco : CoL σ ks ks σ') (he : CvE σ ks E L) (k : VC P m N c Q (envOf L) σ') (hm : ks.take m = List.range m := by rfl) (hn : ks.Nodup := by decide) : VC P m N c Q E σ := vc_cut ks L hm hn hco he k
theorem xK (ks : List Nat) (L : List (Nat × V)) (hco : CoL σ ks ks σ') (he : CvE σ ks E L) (k : VCL P m N c Q (envOf L) σ') (hm : ks.take m = List.range m := by rfl) (hn : ks.Nodup := by decide) : VCL P m N c Q E σ := vcl_cut ks L hm hn hco he k
theorem xm (ks : List Nat) (hco : CoL σ ks ks σ') (he : CvE σ ks E L) (hm : ks.take m = List.range m := by rfl) (hn : ks.Nodup := by decide) : QMid m L σ' .normal E σ := ⟨rfl, ks, hm, hn, hco, he⟩
theorem xh1 (k : CvE σ ks E L) (e1 : E t1 = a1.ren ks 0 := by rfl) (b1 : a1.bnd ks.length = true := by rfl) : CvE σ ks E ((t1, a1) :: L) := ⟨.h e1 b1, k⟩
theorem xh2 (k : CvE σ ks E L) (e1 : E t1 = a1.ren ks 0 := by rfl) (b1 : a1.bnd ks.length = true := by rfl) (e2 : E t2 = a2.ren ks 0 := by rfl) (b2 : a2.bnd ks.length = true := by rfl) : CvE σ ks E ((t1, a1) :: (t2, a2) :: L) := ⟨.h e1 b1, .h e2 b2, k⟩
theorem xh3 (k : CvE σ ks E L) (e1 : E t1 = a1.ren ks 0 := by rfl) (b1 : a1.bnd ks.length = true := by rfl) (e2 : E t2 = a2.ren ks 0 := by rfl) (b2 : a2.bnd ks.length = true := by rfl) (e3 : E t3 = a3.ren ks 0 := by rfl) (b3 : a3.bnd ks.length = true := by rfl) : CvE σ ks E ((t1, a1) :: (t2, a2) :: (t3, a3) :: L) := ⟨.h e1 b1, .h e2 b2, .h e3 b3, k⟩
theorem xh5 (k : CvE σ ks E L) (e1 : E t1 = a1.ren ks 0 := by rfl) (b1 : a1.bnd ks.length = true := by rfl) (e2 : E t2 = a2.ren ks 0 := by rfl) (b2 : a2.bnd ks.length = true := by rfl) (e3 : E t3 = a3.ren ks 0 := by rfl) (b3 : a3.bnd ks.length = true := by rfl) (e4 : E t4 = a4.ren ks 0 := by rfl) (b4 : a4.bnd ks.length = true := by rfl) (e5 : E t5 = a5.ren ks 0 := by rfl) (b5 : a5.bnd ks.length = true := by rfl) :
  CvE σ ks E ((t1, a1) :: (t2, a2) :: (t3, a3) :: (t4, a4) :: (t5, a5) :: L) := ⟨.h e1 b1, .h e2 b2, .h e3 b3, .h e4 b4, .h e5 b5, k⟩
end
end Go.VM
namespace Go.VM.Tryz
open Go.Proofs
theorem xr {m N id : Nat} {l : List Oper} {Q : Post} {E : Env} {σ : Sig} (h : RunQ Tryz.prog T N l.toArray (fun _ => true) [] l (Q .normal) E σ) (hm : Nat.ble m σ.length = true := by rfl) : VC Tryz.prog m N (.region id l.toArray false) Q E σ := vc_region tabOk sized (Nat.le_of_ble_eq_true hm) h
theorem xd {m N id : Nat} {l : List Oper} {Q : Post} {E : Env} {σ : Sig} (h : RunQ Tryz.prog T N l.toArray (chkDraw l) [] l (Q .normal) E σ) (hm : Nat.ble m σ.length = true := by rfl) : VC Tryz.prog m N (.region id l.toArray true) Q E σ := vc_draw follows tabOk sized (Nat.le_of_ble_eq_true hm) h
theorem xe (N : Nat) {f : FuncId} {fn : Func} {c : Code} {ds : List D} {r : D} (hf : Tryz.prog.funcs[f]? = some fn) (h : VC Tryz.prog 0 N c (fun e E σ => (e = .normal ∨ e = .ret) ∧ ResOk T fn.results.toList E σ r) (envD ds) []) (hb : fn.body = some c := by rfl) (hn : (fn.name == "runtime.NumGoroutine") = false := by kernel_rfl) (hN : fn.ntmps = N := by rfl) (hds : Nat.ble ds.length N = true := by rfl) : PCalls Tryz.prog f ds r := pcalls_of_vc tabOk N hf hb hn hN hds h
theorem xsr {m N id : Nat} {l : List Oper} {y : Code} {Q : Post} {E : Env} {σ : Sig} (h : RunQ Tryz.prog T N l.toArray (fun _ => true) [] l (QThen Tryz.prog m N y Q .normal) E σ) (hm : Nat.ble m σ.length = true := by rfl) : VC Tryz.prog m N (.seq (.region id l.toArray false) y) Q E σ := vc_seq (xr h hm)
theorem xsd {m N id : Nat} {l : List Oper} {y : Code} {Q : Post} {E : Env} {σ : Sig} (h : RunQ Tryz.prog T N l.toArray (chkDraw l) [] l (QThen Tryz.prog m N y Q .normal) E σ) (hm : Nat.ble m σ.length = true := by rfl) : VC Tryz.prog m N (.seq (.region id l.toArray true) y) Q E σ := vc_seq (xd h hm)
end Go.VM.Tryz
namespace Go.VM.Tryz
open Go.Proofs
abbrev I (n : Int) : D := .lit (.int .i64 n)
abbrev B (b : Bool) : D := .lit (.bool b)
structure Layout where
 nodes : Int
 data : Int
structure Cell where
 slot : Int
 offset : Int
 deriving DecidableEq
structure Use where
 cell : Cell
 peer : Int
 stamp : Int
 deriving DecidableEq
structure Grant where
 cell : Cell
 peer : Int
 stamp : Int
 til : Int
 deriving DecidableEq
structure Ask where
 cell : Cell
 peer : Int
 deriving DecidableEq
structure Table where
 uses : List Use
 grants : List Grant
 asks : List Ask
def encLayout (l : Layout) : D := .agg [I l.nodes, I l.data]
def encCell (c : Cell) : D := .agg [I c.slot, I c.offset]
def encUse (u : Use) : D := .agg [I u.cell.slot, I u.cell.offset, I u.peer, I u.stamp]
def encGrant (g : Grant) : D := .agg [I g.cell.slot, I g.cell.offset, I g.peer, I g.stamp, I g.til]
def encAsk (a : Ask) : D := .agg [I a.cell.slot, I a.cell.offset, I a.peer]
abbrev encUses (l : List Use) : D := .list 4 (l.map encUse)
abbrev encGrants (l : List Grant) : D := .list 5 (l.map encGrant)
abbrev encAsks (l : List Ask) : D := .list 3 (l.map encAsk)
def encTable (t : Table) : D := .agg [encUses t.uses, encGrants t.grants, encAsks t.asks]
def placed (c : Cell) (peer : Int) (l : Layout) : Bool := decide (c.slot ≥ 0) && (decide (c.slot < l.data) && (decide (c.offset ≥ 0) && (decide (c.offset < 16) && (decide (peer ≥ 0) && decide (peer < l.nodes)))))
theorem placed_ok (c : Cell) (peer : Int) (l : Layout) : PCalls Tryz.prog 169 [encCell c, I peer, encLayout l] (B (placed c peer l)) := by
 refine xe 37 Tryz.func169 ?_
 repeat (first | refine xp ?_ | refine xs ?_ | refine xR ?_ | refine xa ?_ | refine xw ?_ | refine xn ?_ | refine xb ?_ | refine xq ?_ | refine vc_seq ?_ | refine vc_skip ?_ | refine xr ?_ | refine xd ?_ | refine vc_block ?_ | refine vc_exit ?_ | refine vc_condT rfl ?_ | refine vc_condF rfl ?_)
 cases h1 : decide (c.slot ≥ 0)
 ·repeat (first | refine xp ?_ | refine xs ?_ | refine xR ?_ | refine xa ?_ | refine xw ?_ | refine xn ?_ | refine xb ?_ | refine xq ?_ | refine vc_seq ?_ | refine vc_skip ?_ | refine xr ?_ | refine xd ?_ | refine vc_block ?_ | refine vc_exit ?_ | refine vc_condT rfl ?_ | refine vc_condF rfl ?_)
  refine vc_ret ⟨.inr rfl, _, .cons rfl ⟨_, .d, .refl⟩ .nil, ?_⟩
  simp [placed, h1]
 repeat (first | refine xp ?_ | refine xs ?_ | refine xR ?_ | refine xa ?_ | refine xw ?_ | refine xn ?_ | refine xb ?_ | refine xq ?_ | refine vc_seq ?_ | refine vc_skip ?_ | refine xr ?_ | refine xd ?_ | refine vc_block ?_ | refine vc_exit ?_ | refine vc_condT rfl ?_ | refine vc_condF rfl ?_)
 cases h2 : decide (c.slot < l.data)
 ·repeat (first | refine xp ?_ | refine xs ?_ | refine xR ?_ | refine xa ?_ | refine xw ?_ | refine xn ?_ | refine xb ?_ | refine xq ?_ | refine vc_seq ?_ | refine vc_skip ?_ | refine xr ?_ | refine xd ?_ | refine vc_block ?_ | refine vc_exit ?_ | refine vc_condT rfl ?_ | refine vc_condF rfl ?_)
  refine vc_ret ⟨.inr rfl, _, .cons rfl ⟨_, .d, .refl⟩ .nil, ?_⟩
  simp [placed, h1, h2]
 repeat (first | refine xp ?_ | refine xs ?_ | refine xR ?_ | refine xa ?_ | refine xw ?_ | refine xn ?_ | refine xb ?_ | refine xq ?_ | refine vc_seq ?_ | refine vc_skip ?_ | refine xr ?_ | refine xd ?_ | refine vc_block ?_ | refine vc_exit ?_ | refine vc_condT rfl ?_ | refine vc_condF rfl ?_)
 cases h3 : decide (c.offset ≥ 0)
 ·repeat (first | refine xp ?_ | refine xs ?_ | refine xR ?_ | refine xa ?_ | refine xw ?_ | refine xn ?_ | refine xb ?_ | refine xq ?_ | refine vc_seq ?_ | refine vc_skip ?_ | refine xr ?_ | refine xd ?_ | refine vc_block ?_ | refine vc_exit ?_ | refine vc_condT rfl ?_ | refine vc_condF rfl ?_)
  refine vc_ret ⟨.inr rfl, _, .cons rfl ⟨_, .d, .refl⟩ .nil, ?_⟩
  simp [placed, h1, h2, h3]
 repeat (first | refine xp ?_ | refine xs ?_ | refine xR ?_ | refine xa ?_ | refine xw ?_ | refine xn ?_ | refine xb ?_ | refine xq ?_ | refine vc_seq ?_ | refine vc_skip ?_ | refine xr ?_ | refine xd ?_ | refine vc_block ?_ | refine vc_exit ?_ | refine vc_condT rfl ?_ | refine vc_condF rfl ?_)
 cases h4 : decide (c.offset < 16)
 ·repeat (first | refine xp ?_ | refine xs ?_ | refine xR ?_ | refine xa ?_ | refine xw ?_ | refine xn ?_ | refine xb ?_ | refine xq ?_ | refine vc_seq ?_ | refine vc_skip ?_ | refine xr ?_ | refine xd ?_ | refine vc_block ?_ | refine vc_exit ?_ | refine vc_condT rfl ?_ | refine vc_condF rfl ?_)
  refine vc_ret ⟨.inr rfl, _, .cons rfl ⟨_, .d, .refl⟩ .nil, ?_⟩
  simp [placed, h1, h2, h3, h4]
 repeat (first | refine xp ?_ | refine xs ?_ | refine xR ?_ | refine xa ?_ | refine xw ?_ | refine xn ?_ | refine xb ?_ | refine xq ?_ | refine vc_seq ?_ | refine vc_skip ?_ | refine xr ?_ | refine xd ?_ | refine vc_block ?_ | refine vc_exit ?_ | refine vc_condT rfl ?_ | refine vc_condF rfl ?_)
 cases h5 : decide (peer ≥ 0)
 ·repeat (first | refine xp ?_ | refine xs ?_ | refine xR ?_ | refine xa ?_ | refine xw ?_ | refine xn ?_ | refine xb ?_ | refine xq ?_ | refine vc_seq ?_ | refine vc_skip ?_ | refine xr ?_ | refine xd ?_ | refine vc_block ?_ | refine vc_exit ?_ | refine vc_condT rfl ?_ | refine vc_condF rfl ?_)
  refine vc_ret ⟨.inr rfl, _, .cons rfl ⟨_, .d, .refl⟩ .nil, ?_⟩
  simp [placed, h1, h2, h3, h4, h5]
 repeat (first | refine xp ?_ | refine xs ?_ | refine xR ?_ | refine xa ?_ | refine xw ?_ | refine xn ?_ | refine xb ?_ | refine xq ?_ | refine vc_seq ?_ | refine vc_skip ?_ | refine xr ?_ | refine xd ?_ | refine vc_block ?_ | refine vc_exit ?_ | refine vc_condT rfl ?_ | refine vc_condF rfl ?_)
 refine vc_ret ⟨.inr rfl, _, .cons rfl ⟨_, .d, .refl⟩ .nil, ?_⟩
 simp [placed, h1, h2, h3, h4, h5]
end Go.VM.Tryz
namespace Go.VM.Tryz
open Go.Proofs
def isUse (u : Use) (l : Layout) : Bool := placed u.cell u.peer l && (decide (u.stamp ≥ 0) && decide (u.stamp ≤ 1000000000))
def isGrant (g : Grant) (l : Layout) : Bool := placed g.cell g.peer l && (decide (g.stamp ≥ 0) && (decide (g.stamp ≤ g.til) && decide (g.til ≤ 1000000000)))
def isAsk (a : Ask) (l : Layout) : Bool := placed a.cell a.peer l
structure Layout.ok (l : Layout) : Prop where
 n0 : -9223372036854775808 < l.nodes
 n1 : l.nodes ≤ 9223372036854775807
 d0 : -9223372036854775808 < l.data
 d1 : l.data ≤ 9223372036854775807
theorem toUse_ok (u : Use) : PCalls Tryz.prog 108 [encUse u] (encUse u) := by
 refine xe 4 Tryz.func108 ?_
 repeat (first | refine xp ?_ | refine xs ?_ | refine xR ?_ | refine xa ?_ | refine xw ?_ | refine xn ?_ | refine xb ?_ | refine xq ?_ | refine vc_seq ?_ | refine vc_skip ?_ | refine xr ?_ | refine xd ?_ | refine vc_block ?_ | refine vc_exit ?_ | refine vc_condT rfl ?_ | refine vc_condF rfl ?_)
 refine vc_ret ⟨.inr rfl, _, .cons rfl ⟨_, .d, .refl⟩ .nil, ?_⟩
 rfl
theorem toGrant_ok (g : Grant) : PCalls Tryz.prog 95 [encGrant g] (encGrant g) := by
 refine xe 4 Tryz.func95 ?_
 repeat (first | refine xp ?_ | refine xs ?_ | refine xR ?_ | refine xa ?_ | refine xw ?_ | refine xn ?_ | refine xb ?_ | refine xq ?_ | refine vc_seq ?_ | refine vc_skip ?_ | refine xr ?_ | refine xd ?_ | refine vc_block ?_ | refine vc_exit ?_ | refine vc_condT rfl ?_ | refine vc_condF rfl ?_)
 refine vc_ret ⟨.inr rfl, _, .cons rfl ⟨_, .d, .refl⟩ .nil, ?_⟩
 rfl
theorem toAsk_ok (a : Ask) : PCalls Tryz.prog 118 [encAsk a] (encAsk a) := by
 refine xe 4 Tryz.func118 ?_
 repeat (first | refine xp ?_ | refine xs ?_ | refine xR ?_ | refine xa ?_ | refine xw ?_ | refine xn ?_ | refine xb ?_ | refine xq ?_ | refine vc_seq ?_ | refine vc_skip ?_ | refine xr ?_ | refine xd ?_ | refine vc_block ?_ | refine vc_exit ?_ | refine vc_condT rfl ?_ | refine vc_condF rfl ?_)
 refine vc_ret ⟨.inr rfl, _, .cons rfl ⟨_, .d, .refl⟩ .nil, ?_⟩
 rfl
theorem useCell_ok (u : Use) : PCalls Tryz.prog 170 [encUse u] (encCell u.cell) := by
 refine xe 5 Tryz.func170 ?_
 repeat (first | refine xp ?_ | refine xs ?_ | refine xR ?_ | refine xa ?_ | refine xw ?_ | refine xn ?_ | refine xb ?_ | refine xq ?_ | refine vc_seq ?_ | refine vc_skip ?_ | refine xr ?_ | refine xd ?_ | refine vc_block ?_ | refine vc_exit ?_ | refine vc_condT rfl ?_ | refine vc_condF rfl ?_)
 refine vc_ret ⟨.inr rfl, _, .cons rfl ⟨_, .d, .refl⟩ .nil, ?_⟩
 rfl
theorem grantCell_ok (g : Grant) : PCalls Tryz.prog 167 [encGrant g] (encCell g.cell) := by
 refine xe 5 Tryz.func167 ?_
 repeat (first | refine xp ?_ | refine xs ?_ | refine xR ?_ | refine xa ?_ | refine xw ?_ | refine xn ?_ | refine xb ?_ | refine xq ?_ | refine vc_seq ?_ | refine vc_skip ?_ | refine xr ?_ | refine xd ?_ | refine vc_block ?_ | refine vc_exit ?_ | refine vc_condT rfl ?_ | refine vc_condF rfl ?_)
 refine vc_ret ⟨.inr rfl, _, .cons rfl ⟨_, .d, .refl⟩ .nil, ?_⟩
 rfl
theorem askCell_ok (a : Ask) : PCalls Tryz.prog 172 [encAsk a] (encCell a.cell) := by
 refine xe 5 Tryz.func172 ?_
 repeat (first | refine xp ?_ | refine xs ?_ | refine xR ?_ | refine xa ?_ | refine xw ?_ | refine xn ?_ | refine xb ?_ | refine xq ?_ | refine vc_seq ?_ | refine vc_skip ?_ | refine xr ?_ | refine xd ?_ | refine vc_block ?_ | refine vc_exit ?_ | refine vc_condT rfl ?_ | refine vc_condF rfl ?_)
 refine vc_ret ⟨.inr rfl, _, .cons rfl ⟨_, .d, .refl⟩ .nil, ?_⟩
 rfl
theorem useValid_ok (u : Use) (l : Layout) : PCalls Tryz.prog 171 [encUse u, encLayout l] (B (isUse u l)) := by
 refine xe 21 Tryz.func171 ?_
 repeat (first | refine xp ?_ | refine xs ?_ | refine xR ?_ | refine xa ?_ | refine xw ?_ | refine xn ?_ | refine xb ?_ | refine xq ?_ | refine vc_seq ?_ | refine vc_skip ?_ | refine xr ?_ | refine xd ?_ | refine vc_block ?_ | refine vc_exit ?_ | refine vc_condT rfl ?_ | refine vc_condF rfl ?_)
 refine xc (placed_ok u.cell _ l) ?_
 repeat (first | refine xp ?_ | refine xs ?_ | refine xR ?_ | refine xa ?_ | refine xw ?_ | refine xn ?_ | refine xb ?_ | refine xq ?_ | refine vc_seq ?_ | refine vc_skip ?_ | refine xr ?_ | refine xd ?_ | refine vc_block ?_ | refine vc_exit ?_ | refine vc_condT rfl ?_ | refine vc_condF rfl ?_)
 cases h1 : placed u.cell u.peer l
 ·repeat (first | refine xp ?_ | refine xs ?_ | refine xR ?_ | refine xa ?_ | refine xw ?_ | refine xn ?_ | refine xb ?_ | refine xq ?_ | refine vc_seq ?_ | refine vc_skip ?_ | refine xr ?_ | refine xd ?_ | refine vc_block ?_ | refine vc_exit ?_ | refine vc_condT rfl ?_ | refine vc_condF rfl ?_)
  refine vc_ret ⟨.inr rfl, _, .cons rfl ⟨_, .d, .refl⟩ .nil, ?_⟩
  simp [isUse, h1]
 repeat (first | refine xp ?_ | refine xs ?_ | refine xR ?_ | refine xa ?_ | refine xw ?_ | refine xn ?_ | refine xb ?_ | refine xq ?_ | refine vc_seq ?_ | refine vc_skip ?_ | refine xr ?_ | refine xd ?_ | refine vc_block ?_ | refine vc_exit ?_ | refine vc_condT rfl ?_ | refine vc_condF rfl ?_)
 cases h2 : decide (u.stamp ≥ 0)
 ·repeat (first | refine xp ?_ | refine xs ?_ | refine xR ?_ | refine xa ?_ | refine xw ?_ | refine xn ?_ | refine xb ?_ | refine xq ?_ | refine vc_seq ?_ | refine vc_skip ?_ | refine xr ?_ | refine xd ?_ | refine vc_block ?_ | refine vc_exit ?_ | refine vc_condT rfl ?_ | refine vc_condF rfl ?_)
  refine vc_ret ⟨.inr rfl, _, .cons rfl ⟨_, .d, .refl⟩ .nil, ?_⟩
  simp [isUse, h1, h2]
 repeat (first | refine xp ?_ | refine xs ?_ | refine xR ?_ | refine xa ?_ | refine xw ?_ | refine xn ?_ | refine xb ?_ | refine xq ?_ | refine vc_seq ?_ | refine vc_skip ?_ | refine xr ?_ | refine xd ?_ | refine vc_block ?_ | refine vc_exit ?_ | refine vc_condT rfl ?_ | refine vc_condF rfl ?_)
 refine vc_ret ⟨.inr rfl, _, .cons rfl ⟨_, .d, .refl⟩ .nil, ?_⟩
 simp [isUse, h1, h2]
theorem grantValid_ok (g : Grant) (l : Layout) : PCalls Tryz.prog 168 [encGrant g, encLayout l] (B (isGrant g l)) := by
 refine xe 28 Tryz.func168 ?_
 repeat (first | refine xp ?_ | refine xs ?_ | refine xR ?_ | refine xa ?_ | refine xw ?_ | refine xn ?_ | refine xb ?_ | refine xq ?_ | refine vc_seq ?_ | refine vc_skip ?_ | refine xr ?_ | refine xd ?_ | refine vc_block ?_ | refine vc_exit ?_ | refine vc_condT rfl ?_ | refine vc_condF rfl ?_)
 refine xc (placed_ok g.cell _ l) ?_
 repeat (first | refine xp ?_ | refine xs ?_ | refine xR ?_ | refine xa ?_ | refine xw ?_ | refine xn ?_ | refine xb ?_ | refine xq ?_ | refine vc_seq ?_ | refine vc_skip ?_ | refine xr ?_ | refine xd ?_ | refine vc_block ?_ | refine vc_exit ?_ | refine vc_condT rfl ?_ | refine vc_condF rfl ?_)
 cases h1 : placed g.cell g.peer l
 ·repeat (first | refine xp ?_ | refine xs ?_ | refine xR ?_ | refine xa ?_ | refine xw ?_ | refine xn ?_ | refine xb ?_ | refine xq ?_ | refine vc_seq ?_ | refine vc_skip ?_ | refine xr ?_ | refine xd ?_ | refine vc_block ?_ | refine vc_exit ?_ | refine vc_condT rfl ?_ | refine vc_condF rfl ?_)
  refine vc_ret ⟨.inr rfl, _, .cons rfl ⟨_, .d, .refl⟩ .nil, ?_⟩
  simp [isGrant, h1]
 repeat (first | refine xp ?_ | refine xs ?_ | refine xR ?_ | refine xa ?_ | refine xw ?_ | refine xn ?_ | refine xb ?_ | refine xq ?_ | refine vc_seq ?_ | refine vc_skip ?_ | refine xr ?_ | refine xd ?_ | refine vc_block ?_ | refine vc_exit ?_ | refine vc_condT rfl ?_ | refine vc_condF rfl ?_)
 cases h2 : decide (g.stamp ≥ 0)
 ·repeat (first | refine xp ?_ | refine xs ?_ | refine xR ?_ | refine xa ?_ | refine xw ?_ | refine xn ?_ | refine xb ?_ | refine xq ?_ | refine vc_seq ?_ | refine vc_skip ?_ | refine xr ?_ | refine xd ?_ | refine vc_block ?_ | refine vc_exit ?_ | refine vc_condT rfl ?_ | refine vc_condF rfl ?_)
  refine vc_ret ⟨.inr rfl, _, .cons rfl ⟨_, .d, .refl⟩ .nil, ?_⟩
  simp [isGrant, h1, h2]
 repeat (first | refine xp ?_ | refine xs ?_ | refine xR ?_ | refine xa ?_ | refine xw ?_ | refine xn ?_ | refine xb ?_ | refine xq ?_ | refine vc_seq ?_ | refine vc_skip ?_ | refine xr ?_ | refine xd ?_ | refine vc_block ?_ | refine vc_exit ?_ | refine vc_condT rfl ?_ | refine vc_condF rfl ?_)
 cases h3 : decide (g.stamp ≤ g.til)
 ·repeat (first | refine xp ?_ | refine xs ?_ | refine xR ?_ | refine xa ?_ | refine xw ?_ | refine xn ?_ | refine xb ?_ | refine xq ?_ | refine vc_seq ?_ | refine vc_skip ?_ | refine xr ?_ | refine xd ?_ | refine vc_block ?_ | refine vc_exit ?_ | refine vc_condT rfl ?_ | refine vc_condF rfl ?_)
  refine vc_ret ⟨.inr rfl, _, .cons rfl ⟨_, .d, .refl⟩ .nil, ?_⟩
  simp [isGrant, h1, h2, h3]
 repeat (first | refine xp ?_ | refine xs ?_ | refine xR ?_ | refine xa ?_ | refine xw ?_ | refine xn ?_ | refine xb ?_ | refine xq ?_ | refine vc_seq ?_ | refine vc_skip ?_ | refine xr ?_ | refine xd ?_ | refine vc_block ?_ | refine vc_exit ?_ | refine vc_condT rfl ?_ | refine vc_condF rfl ?_)
 refine vc_ret ⟨.inr rfl, _, .cons rfl ⟨_, .d, .refl⟩ .nil, ?_⟩
 simp [isGrant, h1, h2, h3]
theorem askValid_ok (a : Ask) (l : Layout) : PCalls Tryz.prog 173 [encAsk a, encLayout l] (B (isAsk a l)) := by
 refine xe 11 Tryz.func173 ?_
 repeat (first | refine xp ?_ | refine xs ?_ | refine xR ?_ | refine xa ?_ | refine xw ?_ | refine xn ?_ | refine xb ?_ | refine xq ?_ | refine vc_seq ?_ | refine vc_skip ?_ | refine xr ?_ | refine xd ?_ | refine vc_block ?_ | refine vc_exit ?_ | refine vc_condT rfl ?_ | refine vc_condF rfl ?_)
 refine xc (placed_ok a.cell a.peer l) ?_
 repeat (first | refine xp ?_ | refine xs ?_ | refine xR ?_ | refine xa ?_ | refine xw ?_ | refine xn ?_ | refine xb ?_ | refine xq ?_ | refine vc_seq ?_ | refine vc_skip ?_ | refine xr ?_ | refine xd ?_ | refine vc_block ?_ | refine vc_exit ?_ | refine vc_condT rfl ?_ | refine vc_condF rfl ?_)
 refine vc_ret ⟨.inr rfl, _, .cons rfl ⟨_, .d, .refl⟩ .nil, ?_⟩
 rfl
end Go.VM.Tryz
namespace Go.VM.Tryz
open Go.Proofs
theorem osl_congr {k n m : Nat} (h : n = m) : V.osl k n = V.osl k m := by rw [h]
theorem cloneUse_ok (l : List D) (hl : l.length ≤ 4000000) : GCalls Tryz.prog 93 [.d (.list 4 l)] [] (.osl 0 l.length) [.arr 61 4 l] := by
 cases l with
 | nil =>
  refine GCalls.split (pre := []) (post := []) ?_ (fun c => ?_)
  ·refine gcalls_of_vc tabOk 8 Tryz.func93 rfl (by kernel_rfl) rfl rfl ?_
   repeat (first | refine xp ?_ | refine xs ?_ | refine xR ?_ | refine xa ?_ | refine xw ?_ | refine xn ?_ | refine xq ?_ | refine vc_seq ?_ | refine vc_skip ?_ | refine xr ?_ | refine xd ?_ | refine vc_block ?_ | refine vc_exit ?_ | refine vc_condT rfl ?_ | refine vc_condF rfl ?_)
   refine rnt rfl rfl rfl rfl rfl rfl ?_
   repeat (first | refine xp ?_ | refine xs ?_ | refine xR ?_ | refine xa ?_ | refine xw ?_ | refine xn ?_ | refine xq ?_ | refine vc_seq ?_ | refine vc_skip ?_ | refine xr ?_ | refine xd ?_ | refine vc_block ?_ | refine vc_exit ?_ | refine vc_condT rfl ?_ | refine vc_condF rfl ?_)
   refine VC.weak (weak_ownNil 2 61 4 rfl rfl) ?_
   refine vc_ret ⟨.inr rfl, [0], _, ⟨rfl, by decide, rfl, rfl, .cons rfl .nil, rfl, .f rfl⟩⟩
  ·refine gcalls_of_vc tabOk 8 Tryz.func93 rfl (by kernel_rfl) rfl rfl ?_
   repeat (first | refine xp ?_ | refine xs ?_ | refine xR ?_ | refine xa ?_ | refine xw ?_ | refine xn ?_ | refine xq ?_ | refine vc_seq ?_ | refine vc_skip ?_ | refine xr ?_ | refine xd ?_ | refine vc_block ?_ | refine vc_exit ?_ | refine vc_condT rfl ?_ | refine vc_condF rfl ?_)
   refine rne rfl rfl rfl rfl rfl rfl ?_
   repeat (first | refine xp ?_ | refine xs ?_ | refine xR ?_ | refine xa ?_ | refine xw ?_ | refine xn ?_ | refine xq ?_ | refine vc_seq ?_ | refine vc_skip ?_ | refine xr ?_ | refine xd ?_ | refine vc_block ?_ | refine vc_exit ?_ | refine vc_condT rfl ?_ | refine vc_condF rfl ?_)
   refine rbo rfl rfl rfl rfl rfl rfl rfl rfl rfl rfl ?_
   repeat (first | refine xp ?_ | refine xs ?_ | refine xR ?_ | refine xa ?_ | refine xw ?_ | refine xn ?_ | refine xq ?_ | refine vc_seq ?_ | refine vc_skip ?_ | refine xr ?_ | refine xd ?_ | refine vc_block ?_ | refine vc_exit ?_ | refine vc_condT rfl ?_ | refine vc_condF rfl ?_)
   refine rap rfl rfl rfl rfl rfl rfl rfl rfl .empt rfl rfl rfl rfl rfl (by simp) (by simp) ?_
   repeat (first | refine xp ?_ | refine xs ?_ | refine xR ?_ | refine xa ?_ | refine xw ?_ | refine xn ?_ | refine xq ?_ | refine vc_seq ?_ | refine vc_skip ?_ | refine xr ?_ | refine xd ?_ | refine vc_block ?_ | refine vc_exit ?_ | refine vc_condT rfl ?_ | refine vc_condF rfl ?_)
   refine vc_ret ⟨.inr rfl, [0], _, ⟨rfl, by decide, rfl, rfl, .cons rfl .nil, rfl, .f rfl⟩⟩
 | cons d ds =>
  refine gcalls_of_vc tabOk 8 Tryz.func93 rfl (by kernel_rfl) rfl rfl ?_
  repeat (first | refine xp ?_ | refine xs ?_ | refine xR ?_ | refine xa ?_ | refine xw ?_ | refine xn ?_ | refine xq ?_ | refine vc_seq ?_ | refine vc_skip ?_ | refine xr ?_ | refine xd ?_ | refine vc_block ?_ | refine vc_exit ?_ | refine vc_condT rfl ?_ | refine vc_condF rfl ?_)
  refine rnf rfl rfl rfl rfl rfl rfl ?_
  repeat (first | refine xp ?_ | refine xs ?_ | refine xR ?_ | refine xa ?_ | refine xw ?_ | refine xn ?_ | refine xq ?_ | refine vc_seq ?_ | refine vc_skip ?_ | refine xr ?_ | refine xd ?_ | refine vc_block ?_ | refine vc_exit ?_ | refine vc_condT rfl ?_ | refine vc_condF rfl ?_)
  refine rbo rfl rfl rfl rfl rfl rfl rfl rfl rfl rfl ?_
  repeat (first | refine xp ?_ | refine xs ?_ | refine xR ?_ | refine xa ?_ | refine xw ?_ | refine xn ?_ | refine xq ?_ | refine vc_seq ?_ | refine vc_skip ?_ | refine xr ?_ | refine xd ?_ | refine vc_block ?_ | refine vc_exit ?_ | refine vc_condT rfl ?_ | refine vc_condF rfl ?_)
  refine rap rfl rfl rfl rfl rfl rfl rfl rfl .list rfl rfl rfl rfl rfl (by simp at hl ⊢; omega) (by simp at hl ⊢; omega) ?_
  repeat (first | refine xp ?_ | refine xs ?_ | refine xR ?_ | refine xa ?_ | refine xw ?_ | refine xn ?_ | refine xq ?_ | refine vc_seq ?_ | refine vc_skip ?_ | refine xr ?_ | refine xd ?_ | refine vc_block ?_ | refine vc_exit ?_ | refine vc_condT rfl ?_ | refine vc_condF rfl ?_)
  refine vc_ret ⟨.inr rfl, [0], _, ⟨rfl, by decide, rfl, rfl, .cons rfl .nil, rfl, .f2 rfl (osl_congr (by simp))⟩⟩
theorem cloneUse_f (l : List D) (hl : l.length ≤ 4000000) (hf : D.flatL l = true) : FCalls Tryz.prog 93 [.list 4 l] (.list 4 l) := .of_g (cloneUse_ok l hl) (.osl rfl rfl hf)
theorem cloneGrant_ok (l : List D) (hl : l.length ≤ 4000000) : GCalls Tryz.prog 48 [.d (.list 5 l)] [] (.osl 0 l.length) [.arr 59 5 l] := by
 cases l with
 | nil =>
  refine GCalls.split (pre := []) (post := []) ?_ (fun c => ?_)
  ·refine gcalls_of_vc tabOk 8 Tryz.func48 rfl (by kernel_rfl) rfl rfl ?_
   repeat (first | refine xp ?_ | refine xs ?_ | refine xR ?_ | refine xa ?_ | refine xw ?_ | refine xn ?_ | refine xq ?_ | refine vc_seq ?_ | refine vc_skip ?_ | refine xr ?_ | refine xd ?_ | refine vc_block ?_ | refine vc_exit ?_ | refine vc_condT rfl ?_ | refine vc_condF rfl ?_)
   refine rnt rfl rfl rfl rfl rfl rfl ?_
   repeat (first | refine xp ?_ | refine xs ?_ | refine xR ?_ | refine xa ?_ | refine xw ?_ | refine xn ?_ | refine xq ?_ | refine vc_seq ?_ | refine vc_skip ?_ | refine xr ?_ | refine xd ?_ | refine vc_block ?_ | refine vc_exit ?_ | refine vc_condT rfl ?_ | refine vc_condF rfl ?_)
   refine VC.weak (weak_ownNil 2 59 5 rfl rfl) ?_
   refine vc_ret ⟨.inr rfl, [0], _, ⟨rfl, by decide, rfl, rfl, .cons rfl .nil, rfl, .f rfl⟩⟩
  ·refine gcalls_of_vc tabOk 8 Tryz.func48 rfl (by kernel_rfl) rfl rfl ?_
   repeat (first | refine xp ?_ | refine xs ?_ | refine xR ?_ | refine xa ?_ | refine xw ?_ | refine xn ?_ | refine xq ?_ | refine vc_seq ?_ | refine vc_skip ?_ | refine xr ?_ | refine xd ?_ | refine vc_block ?_ | refine vc_exit ?_ | refine vc_condT rfl ?_ | refine vc_condF rfl ?_)
   refine rne rfl rfl rfl rfl rfl rfl ?_
   repeat (first | refine xp ?_ | refine xs ?_ | refine xR ?_ | refine xa ?_ | refine xw ?_ | refine xn ?_ | refine xq ?_ | refine vc_seq ?_ | refine vc_skip ?_ | refine xr ?_ | refine xd ?_ | refine vc_block ?_ | refine vc_exit ?_ | refine vc_condT rfl ?_ | refine vc_condF rfl ?_)
   refine rbo rfl rfl rfl rfl rfl rfl rfl rfl rfl rfl ?_
   repeat (first | refine xp ?_ | refine xs ?_ | refine xR ?_ | refine xa ?_ | refine xw ?_ | refine xn ?_ | refine xq ?_ | refine vc_seq ?_ | refine vc_skip ?_ | refine xr ?_ | refine xd ?_ | refine vc_block ?_ | refine vc_exit ?_ | refine vc_condT rfl ?_ | refine vc_condF rfl ?_)
   refine rap rfl rfl rfl rfl rfl rfl rfl rfl .empt rfl rfl rfl rfl rfl (by simp) (by simp) ?_
   repeat (first | refine xp ?_ | refine xs ?_ | refine xR ?_ | refine xa ?_ | refine xw ?_ | refine xn ?_ | refine xq ?_ | refine vc_seq ?_ | refine vc_skip ?_ | refine xr ?_ | refine xd ?_ | refine vc_block ?_ | refine vc_exit ?_ | refine vc_condT rfl ?_ | refine vc_condF rfl ?_)
   refine vc_ret ⟨.inr rfl, [0], _, ⟨rfl, by decide, rfl, rfl, .cons rfl .nil, rfl, .f rfl⟩⟩
 | cons d ds =>
  refine gcalls_of_vc tabOk 8 Tryz.func48 rfl (by kernel_rfl) rfl rfl ?_
  repeat (first | refine xp ?_ | refine xs ?_ | refine xR ?_ | refine xa ?_ | refine xw ?_ | refine xn ?_ | refine xq ?_ | refine vc_seq ?_ | refine vc_skip ?_ | refine xr ?_ | refine xd ?_ | refine vc_block ?_ | refine vc_exit ?_ | refine vc_condT rfl ?_ | refine vc_condF rfl ?_)
  refine rnf rfl rfl rfl rfl rfl rfl ?_
  repeat (first | refine xp ?_ | refine xs ?_ | refine xR ?_ | refine xa ?_ | refine xw ?_ | refine xn ?_ | refine xq ?_ | refine vc_seq ?_ | refine vc_skip ?_ | refine xr ?_ | refine xd ?_ | refine vc_block ?_ | refine vc_exit ?_ | refine vc_condT rfl ?_ | refine vc_condF rfl ?_)
  refine rbo rfl rfl rfl rfl rfl rfl rfl rfl rfl rfl ?_
  repeat (first | refine xp ?_ | refine xs ?_ | refine xR ?_ | refine xa ?_ | refine xw ?_ | refine xn ?_ | refine xq ?_ | refine vc_seq ?_ | refine vc_skip ?_ | refine xr ?_ | refine xd ?_ | refine vc_block ?_ | refine vc_exit ?_ | refine vc_condT rfl ?_ | refine vc_condF rfl ?_)
  refine rap rfl rfl rfl rfl rfl rfl rfl rfl .list rfl rfl rfl rfl rfl (by simp at hl ⊢; omega) (by simp at hl ⊢; omega) ?_
  repeat (first | refine xp ?_ | refine xs ?_ | refine xR ?_ | refine xa ?_ | refine xw ?_ | refine xn ?_ | refine xq ?_ | refine vc_seq ?_ | refine vc_skip ?_ | refine xr ?_ | refine xd ?_ | refine vc_block ?_ | refine vc_exit ?_ | refine vc_condT rfl ?_ | refine vc_condF rfl ?_)
  refine vc_ret ⟨.inr rfl, [0], _, ⟨rfl, by decide, rfl, rfl, .cons rfl .nil, rfl, .f2 rfl (osl_congr (by simp))⟩⟩
theorem cloneGrant_f (l : List D) (hl : l.length ≤ 4000000) (hf : D.flatL l = true) : FCalls Tryz.prog 48 [.list 5 l] (.list 5 l) := .of_g (cloneGrant_ok l hl) (.osl rfl rfl hf)
theorem cloneAsk_ok (l : List D) (hl : l.length ≤ 4000000) : GCalls Tryz.prog 97 [.d (.list 3 l)] [] (.osl 0 l.length) [.arr 63 3 l] := by
 cases l with
 | nil =>
  refine GCalls.split (pre := []) (post := []) ?_ (fun c => ?_)
  ·refine gcalls_of_vc tabOk 8 Tryz.func97 rfl (by kernel_rfl) rfl rfl ?_
   repeat (first | refine xp ?_ | refine xs ?_ | refine xR ?_ | refine xa ?_ | refine xw ?_ | refine xn ?_ | refine xq ?_ | refine vc_seq ?_ | refine vc_skip ?_ | refine xr ?_ | refine xd ?_ | refine vc_block ?_ | refine vc_exit ?_ | refine vc_condT rfl ?_ | refine vc_condF rfl ?_)
   refine rnt rfl rfl rfl rfl rfl rfl ?_
   repeat (first | refine xp ?_ | refine xs ?_ | refine xR ?_ | refine xa ?_ | refine xw ?_ | refine xn ?_ | refine xq ?_ | refine vc_seq ?_ | refine vc_skip ?_ | refine xr ?_ | refine xd ?_ | refine vc_block ?_ | refine vc_exit ?_ | refine vc_condT rfl ?_ | refine vc_condF rfl ?_)
   refine VC.weak (weak_ownNil 2 63 3 rfl rfl) ?_
   refine vc_ret ⟨.inr rfl, [0], _, ⟨rfl, by decide, rfl, rfl, .cons rfl .nil, rfl, .f rfl⟩⟩
  ·refine gcalls_of_vc tabOk 8 Tryz.func97 rfl (by kernel_rfl) rfl rfl ?_
   repeat (first | refine xp ?_ | refine xs ?_ | refine xR ?_ | refine xa ?_ | refine xw ?_ | refine xn ?_ | refine xq ?_ | refine vc_seq ?_ | refine vc_skip ?_ | refine xr ?_ | refine xd ?_ | refine vc_block ?_ | refine vc_exit ?_ | refine vc_condT rfl ?_ | refine vc_condF rfl ?_)
   refine rne rfl rfl rfl rfl rfl rfl ?_
   repeat (first | refine xp ?_ | refine xs ?_ | refine xR ?_ | refine xa ?_ | refine xw ?_ | refine xn ?_ | refine xq ?_ | refine vc_seq ?_ | refine vc_skip ?_ | refine xr ?_ | refine xd ?_ | refine vc_block ?_ | refine vc_exit ?_ | refine vc_condT rfl ?_ | refine vc_condF rfl ?_)
   refine rbo rfl rfl rfl rfl rfl rfl rfl rfl rfl rfl ?_
   repeat (first | refine xp ?_ | refine xs ?_ | refine xR ?_ | refine xa ?_ | refine xw ?_ | refine xn ?_ | refine xq ?_ | refine vc_seq ?_ | refine vc_skip ?_ | refine xr ?_ | refine xd ?_ | refine vc_block ?_ | refine vc_exit ?_ | refine vc_condT rfl ?_ | refine vc_condF rfl ?_)
   refine rap rfl rfl rfl rfl rfl rfl rfl rfl .empt rfl rfl rfl rfl rfl (by simp) (by simp) ?_
   repeat (first | refine xp ?_ | refine xs ?_ | refine xR ?_ | refine xa ?_ | refine xw ?_ | refine xn ?_ | refine xq ?_ | refine vc_seq ?_ | refine vc_skip ?_ | refine xr ?_ | refine xd ?_ | refine vc_block ?_ | refine vc_exit ?_ | refine vc_condT rfl ?_ | refine vc_condF rfl ?_)
   refine vc_ret ⟨.inr rfl, [0], _, ⟨rfl, by decide, rfl, rfl, .cons rfl .nil, rfl, .f rfl⟩⟩
 | cons d ds =>
  refine gcalls_of_vc tabOk 8 Tryz.func97 rfl (by kernel_rfl) rfl rfl ?_
  repeat (first | refine xp ?_ | refine xs ?_ | refine xR ?_ | refine xa ?_ | refine xw ?_ | refine xn ?_ | refine xq ?_ | refine vc_seq ?_ | refine vc_skip ?_ | refine xr ?_ | refine xd ?_ | refine vc_block ?_ | refine vc_exit ?_ | refine vc_condT rfl ?_ | refine vc_condF rfl ?_)
  refine rnf rfl rfl rfl rfl rfl rfl ?_
  repeat (first | refine xp ?_ | refine xs ?_ | refine xR ?_ | refine xa ?_ | refine xw ?_ | refine xn ?_ | refine xq ?_ | refine vc_seq ?_ | refine vc_skip ?_ | refine xr ?_ | refine xd ?_ | refine vc_block ?_ | refine vc_exit ?_ | refine vc_condT rfl ?_ | refine vc_condF rfl ?_)
  refine rbo rfl rfl rfl rfl rfl rfl rfl rfl rfl rfl ?_
  repeat (first | refine xp ?_ | refine xs ?_ | refine xR ?_ | refine xa ?_ | refine xw ?_ | refine xn ?_ | refine xq ?_ | refine vc_seq ?_ | refine vc_skip ?_ | refine xr ?_ | refine xd ?_ | refine vc_block ?_ | refine vc_exit ?_ | refine vc_condT rfl ?_ | refine vc_condF rfl ?_)
  refine rap rfl rfl rfl rfl rfl rfl rfl rfl .list rfl rfl rfl rfl rfl (by simp at hl ⊢; omega) (by simp at hl ⊢; omega) ?_
  repeat (first | refine xp ?_ | refine xs ?_ | refine xR ?_ | refine xa ?_ | refine xw ?_ | refine xn ?_ | refine xq ?_ | refine vc_seq ?_ | refine vc_skip ?_ | refine xr ?_ | refine xd ?_ | refine vc_block ?_ | refine vc_exit ?_ | refine vc_condT rfl ?_ | refine vc_condF rfl ?_)
  refine vc_ret ⟨.inr rfl, [0], _, ⟨rfl, by decide, rfl, rfl, .cons rfl .nil, rfl, .f2 rfl (osl_congr (by simp))⟩⟩
theorem cloneAsk_f (l : List D) (hl : l.length ≤ 4000000) (hf : D.flatL l = true) : FCalls Tryz.prog 97 [.list 3 l] (.list 3 l) := .of_g (cloneAsk_ok l hl) (.osl rfl rfl hf)
end Go.VM.Tryz
namespace Go.VM.Tryz
open Go.Proofs
theorem vcl_listI {P : Program} {m N : Nat} {c : Code} {Q : Post} {α : Type} (l : List α) (J : List α → Prop) (SE : List α → Env) (Sσ : List α → Sig) (h0 : J [])
  (step : ∀ pre x post, l = pre ++ x :: post → J pre → (J (pre ++ [x]) → VCL P m N c Q (SE (pre ++ [x])) (Sσ (pre ++ [x]))) → VCL P m N c Q (SE pre) (Sσ pre)) (done : J l → VCL P m N c Q (SE l) (Sσ l)) : VCL P m N c Q (SE []) (Sσ []) := by
 have key : ∀ post pre, l = pre ++ post → J pre → VCL P m N c Q (SE pre) (Sσ pre) := by
  intro post
  induction post with
  | nil => intro pre h hj; rw [List.append_nil] at h; subst h; exact done hj
  | cons x post ih => intro pre h hj; exact step pre x post h hj (fun hj' => ih (pre ++ [x]) (by rw [h]; simp) hj')
 exact key l [] rfl h0
def idx {α : Type} (p : α → Bool) (l : List α) : Int := match l.findIdx? p with | some i => i | none => -1
theorem idx_found {α : Type} {p : α → Bool} {l pre post : List α} {x : α} (h : l = pre ++ x :: post) (hp : ∀ a ∈ pre, p a = false) (hx : p x = true) : idx p l = pre.length := by
 subst h
 have : (pre ++ x :: post).findIdx? p = some pre.length := by
  induction pre with
  | nil => simp [List.findIdx?_cons, hx]
  | cons a pre ih => simp [List.findIdx?_cons, hp a (by simp), ih (fun b hb => hp b (by simp [hb]))]
 simp [idx, this]
theorem idx_none {α : Type} {p : α → Bool} {l : List α} (hp : ∀ a ∈ l, p a = false) : idx p l = -1 := by
 have : l.findIdx? p = none := by
  induction l with
  | nil => rfl
  | cons a l ih => simp [List.findIdx?_cons, hp a (by simp), ih (fun b hb => hp b (by simp [hb]))]
 simp [idx, this]
theorem idx_any {α : Type} {p : α → Bool} {l : List α} : decide (idx p l ≥ 0) = l.any p := by
 by_cases h : ∀ a ∈ l, p a = false
 ·rw [idx_none h]
  have : l.any p = false := by simpa using h
  rw [this]; rfl
 ·have : l.any p = true := by
   cases hh : l.any p with
   | true => rfl
   | false => exact absurd (by simpa using hh) h
  rw [this]
  have h2 : (l.findIdx? p).isSome = true := by simpa [List.findIdx?_isSome] using this
  obtain ⟨i, hi⟩ := Option.isSome_iff_exists.1 h2
  simp [idx, hi]
theorem indexUse_ok {g : FuncId} {caps : List D} (l : List Use) (p : Use → Bool) (hp : ∀ a ∈ l, PCalls Tryz.prog g (encUse a :: caps) (B (p a))) (hl : l.length ≤ 4000000) :
  PCalls Tryz.prog 133 [.list 4 (l.map encUse), .fn (.func g) [] caps] (I (idx p l)) := by
 refine xe 19 Tryz.func133 ?_
 repeat (first | refine xp ?_ | refine xs ?_ | refine xR ?_ | refine xa ?_ | refine xw ?_ | refine xn ?_ | refine xb ?_ | refine xq ?_ | refine vc_seq ?_ | refine vc_skip ?_ | refine xr ?_ | refine xd ?_ | refine vc_block ?_ | refine vc_exit ?_ | refine vc_condT rfl ?_ | refine vc_condF rfl ?_)
 refine vc_loop ?_
 refine vcl_keep [(0, _), (1, _), (7, _), (8, _)] 0 ⟨.f rfl, .f rfl, .f rfl, .f rfl, trivial⟩ rfl (Nat.le_refl _) (Nat.le_refl _) rfl rfl ?_
 refine vcl_listI l (fun pre => ∀ a ∈ pre, p a = false) (fun pre => envOf [(0, .d (.list 4 (l.map encUse))), (1, .d (.fn (.func g) [] caps)), (7, .d (I (l.map encUse).length)), (8, .d (I pre.length))]) (fun pre => []) (by simp) ?step ?done
 case step =>
  intro pre x post h hj ih
  have hlt := lt_len h
  refine vcl_unroll ?_
  repeat (first | refine xp ?_ | refine xs ?_ | refine xR ?_ | refine xa ?_ | refine xw ?_ | refine xn ?_ | refine xb ?_ | refine xq ?_ | refine vc_seq ?_ | refine vc_skip ?_ | refine xr ?_ | refine xd ?_ | refine vc_block ?_ | refine vc_exit ?_ | refine vc_condT rfl ?_ | refine vc_condF rfl ?_)
  refine vc_cond rfl (fun _ => ?_) (fun hf => absurd hf (by simp; omega))
  repeat (first | refine xp ?_ | refine xs ?_ | refine xR ?_ | refine xa ?_ | refine xw ?_ | refine xn ?_ | refine xb ?_ | refine xq ?_ | refine vc_seq ?_ | refine vc_skip ?_ | refine xr ?_ | refine xd ?_ | refine vc_block ?_ | refine vc_exit ?_ | refine vc_condT rfl ?_ | refine vc_condF rfl ?_)
  refine ri rfl rfl rfl rfl rfl rfl rfl (by omega) (idx_map h) ?_
  repeat (first | refine xp ?_ | refine xs ?_ | refine xR ?_ | refine xa ?_ | refine xw ?_ | refine xn ?_ | refine xb ?_ | refine xq ?_ | refine vc_seq ?_ | refine vc_skip ?_ | refine xr ?_ | refine xd ?_ | refine vc_block ?_ | refine vc_exit ?_ | refine vc_condT rfl ?_ | refine vc_condF rfl ?_)
  refine xc (hp x (by subst h; simp)) ?_
  repeat (first | refine xp ?_ | refine xs ?_ | refine xR ?_ | refine xa ?_ | refine xw ?_ | refine xn ?_ | refine xb ?_ | refine xq ?_ | refine vc_seq ?_ | refine vc_skip ?_ | refine xr ?_ | refine xd ?_ | refine vc_block ?_ | refine vc_exit ?_ | refine vc_condT rfl ?_ | refine vc_condF rfl ?_)
  refine vc_cond rfl (fun hx => ?_) (fun hx => ?_)
  ·repeat (first | refine xp ?_ | refine xs ?_ | refine xR ?_ | refine xa ?_ | refine xw ?_ | refine xn ?_ | refine xb ?_ | refine xq ?_ | refine vc_seq ?_ | refine vc_skip ?_ | refine xr ?_ | refine xd ?_ | refine vc_block ?_ | refine vc_exit ?_ | refine vc_condT rfl ?_ | refine vc_condF rfl ?_)
   refine vc_ret ⟨.inr rfl, _, .cons rfl ⟨_, .d, .refl⟩ .nil, ?_⟩
   rw [idx_found h hj (by simpa using hx)]
  ·have hx' : p x = false := by simpa using hx
   repeat (first | refine xp ?_ | refine xs ?_ | refine xR ?_ | refine xa ?_ | refine xw ?_ | refine xn ?_ | refine xb ?_ | refine xq ?_ | refine vc_seq ?_ | refine vc_skip ?_ | refine xr ?_ | refine xd ?_ | refine vc_block ?_ | refine vc_exit ?_ | refine vc_condT rfl ?_ | refine vc_condF rfl ?_)
   exact vcl_go (ih (fun a ha => by rcases List.mem_append.1 ha with ha | ha; exact hj a ha; simp at ha; subst ha; exact hx')) 0 rfl (Nat.le_refl _) (Nat.le_refl _) rfl rfl ⟨.f rfl, .f rfl, .f rfl, .f2 rfl (by rw [i64_wrap (by omega) (by omega)]; simp), trivial⟩
 case done =>
  intro hj
  refine vcl_unroll ?_
  repeat (first | refine xp ?_ | refine xs ?_ | refine xR ?_ | refine xa ?_ | refine xw ?_ | refine xn ?_ | refine xb ?_ | refine xq ?_ | refine vc_seq ?_ | refine vc_skip ?_ | refine xr ?_ | refine xd ?_ | refine vc_block ?_ | refine vc_exit ?_ | refine vc_condT rfl ?_ | refine vc_condF rfl ?_)
  refine vc_cond rfl (fun ht => absurd ht (by simp)) (fun _ => ?_)
  repeat (first | refine xp ?_ | refine xs ?_ | refine xR ?_ | refine xa ?_ | refine xw ?_ | refine xn ?_ | refine xb ?_ | refine xq ?_ | refine vc_seq ?_ | refine vc_skip ?_ | refine xr ?_ | refine xd ?_ | refine vc_block ?_ | refine vc_exit ?_ | refine vc_condT rfl ?_ | refine vc_condF rfl ?_)
  refine vc_ret ⟨.inr rfl, _, .cons rfl ⟨_, .d, .refl⟩ .nil, ?_⟩
  rw [idx_none hj]
theorem indexGrant_ok {g : FuncId} {caps : List D} (l : List Grant) (p : Grant → Bool) (hp : ∀ a ∈ l, PCalls Tryz.prog g (encGrant a :: caps) (B (p a))) (hl : l.length ≤ 4000000) :
  PCalls Tryz.prog 54 [.list 5 (l.map encGrant), .fn (.func g) [] caps] (I (idx p l)) := by
 refine xe 19 Tryz.func54 ?_
 repeat (first | refine xp ?_ | refine xs ?_ | refine xR ?_ | refine xa ?_ | refine xw ?_ | refine xn ?_ | refine xb ?_ | refine xq ?_ | refine vc_seq ?_ | refine vc_skip ?_ | refine xr ?_ | refine xd ?_ | refine vc_block ?_ | refine vc_exit ?_ | refine vc_condT rfl ?_ | refine vc_condF rfl ?_)
 refine vc_loop ?_
 refine vcl_keep [(0, _), (1, _), (7, _), (8, _)] 0 ⟨.f rfl, .f rfl, .f rfl, .f rfl, trivial⟩ rfl (Nat.le_refl _) (Nat.le_refl _) rfl rfl ?_
 refine vcl_listI l (fun pre => ∀ a ∈ pre, p a = false) (fun pre => envOf [(0, .d (.list 5 (l.map encGrant))), (1, .d (.fn (.func g) [] caps)), (7, .d (I (l.map encGrant).length)), (8, .d (I pre.length))]) (fun pre => []) (by simp) ?step ?done
 case step =>
  intro pre x post h hj ih
  have hlt := lt_len h
  refine vcl_unroll ?_
  repeat (first | refine xp ?_ | refine xs ?_ | refine xR ?_ | refine xa ?_ | refine xw ?_ | refine xn ?_ | refine xb ?_ | refine xq ?_ | refine vc_seq ?_ | refine vc_skip ?_ | refine xr ?_ | refine xd ?_ | refine vc_block ?_ | refine vc_exit ?_ | refine vc_condT rfl ?_ | refine vc_condF rfl ?_)
  refine vc_cond rfl (fun _ => ?_) (fun hf => absurd hf (by simp; omega))
  repeat (first | refine xp ?_ | refine xs ?_ | refine xR ?_ | refine xa ?_ | refine xw ?_ | refine xn ?_ | refine xb ?_ | refine xq ?_ | refine vc_seq ?_ | refine vc_skip ?_ | refine xr ?_ | refine xd ?_ | refine vc_block ?_ | refine vc_exit ?_ | refine vc_condT rfl ?_ | refine vc_condF rfl ?_)
  refine ri rfl rfl rfl rfl rfl rfl rfl (by omega) (idx_map h) ?_
  repeat (first | refine xp ?_ | refine xs ?_ | refine xR ?_ | refine xa ?_ | refine xw ?_ | refine xn ?_ | refine xb ?_ | refine xq ?_ | refine vc_seq ?_ | refine vc_skip ?_ | refine xr ?_ | refine xd ?_ | refine vc_block ?_ | refine vc_exit ?_ | refine vc_condT rfl ?_ | refine vc_condF rfl ?_)
  refine xc (hp x (by subst h; simp)) ?_
  repeat (first | refine xp ?_ | refine xs ?_ | refine xR ?_ | refine xa ?_ | refine xw ?_ | refine xn ?_ | refine xb ?_ | refine xq ?_ | refine vc_seq ?_ | refine vc_skip ?_ | refine xr ?_ | refine xd ?_ | refine vc_block ?_ | refine vc_exit ?_ | refine vc_condT rfl ?_ | refine vc_condF rfl ?_)
  refine vc_cond rfl (fun hx => ?_) (fun hx => ?_)
  ·repeat (first | refine xp ?_ | refine xs ?_ | refine xR ?_ | refine xa ?_ | refine xw ?_ | refine xn ?_ | refine xb ?_ | refine xq ?_ | refine vc_seq ?_ | refine vc_skip ?_ | refine xr ?_ | refine xd ?_ | refine vc_block ?_ | refine vc_exit ?_ | refine vc_condT rfl ?_ | refine vc_condF rfl ?_)
   refine vc_ret ⟨.inr rfl, _, .cons rfl ⟨_, .d, .refl⟩ .nil, ?_⟩
   rw [idx_found h hj (by simpa using hx)]
  ·have hx' : p x = false := by simpa using hx
   repeat (first | refine xp ?_ | refine xs ?_ | refine xR ?_ | refine xa ?_ | refine xw ?_ | refine xn ?_ | refine xb ?_ | refine xq ?_ | refine vc_seq ?_ | refine vc_skip ?_ | refine xr ?_ | refine xd ?_ | refine vc_block ?_ | refine vc_exit ?_ | refine vc_condT rfl ?_ | refine vc_condF rfl ?_)
   exact vcl_go (ih (fun a ha => by rcases List.mem_append.1 ha with ha | ha; exact hj a ha; simp at ha; subst ha; exact hx')) 0 rfl (Nat.le_refl _) (Nat.le_refl _) rfl rfl ⟨.f rfl, .f rfl, .f rfl, .f2 rfl (by rw [i64_wrap (by omega) (by omega)]; simp), trivial⟩
 case done =>
  intro hj
  refine vcl_unroll ?_
  repeat (first | refine xp ?_ | refine xs ?_ | refine xR ?_ | refine xa ?_ | refine xw ?_ | refine xn ?_ | refine xb ?_ | refine xq ?_ | refine vc_seq ?_ | refine vc_skip ?_ | refine xr ?_ | refine xd ?_ | refine vc_block ?_ | refine vc_exit ?_ | refine vc_condT rfl ?_ | refine vc_condF rfl ?_)
  refine vc_cond rfl (fun ht => absurd ht (by simp)) (fun _ => ?_)
  repeat (first | refine xp ?_ | refine xs ?_ | refine xR ?_ | refine xa ?_ | refine xw ?_ | refine xn ?_ | refine xb ?_ | refine xq ?_ | refine vc_seq ?_ | refine vc_skip ?_ | refine xr ?_ | refine xd ?_ | refine vc_block ?_ | refine vc_exit ?_ | refine vc_condT rfl ?_ | refine vc_condF rfl ?_)
  refine vc_ret ⟨.inr rfl, _, .cons rfl ⟨_, .d, .refl⟩ .nil, ?_⟩
  rw [idx_none hj]
theorem indexAsk_ok {g : FuncId} {caps : List D} (l : List Ask) (p : Ask → Bool) (hp : ∀ a ∈ l, PCalls Tryz.prog g (encAsk a :: caps) (B (p a))) (hl : l.length ≤ 4000000) :
  PCalls Tryz.prog 90 [.list 3 (l.map encAsk), .fn (.func g) [] caps] (I (idx p l)) := by
 refine xe 19 Tryz.func90 ?_
 repeat (first | refine xp ?_ | refine xs ?_ | refine xR ?_ | refine xa ?_ | refine xw ?_ | refine xn ?_ | refine xb ?_ | refine xq ?_ | refine vc_seq ?_ | refine vc_skip ?_ | refine xr ?_ | refine xd ?_ | refine vc_block ?_ | refine vc_exit ?_ | refine vc_condT rfl ?_ | refine vc_condF rfl ?_)
 refine vc_loop ?_
 refine vcl_keep [(0, _), (1, _), (7, _), (8, _)] 0 ⟨.f rfl, .f rfl, .f rfl, .f rfl, trivial⟩ rfl (Nat.le_refl _) (Nat.le_refl _) rfl rfl ?_
 refine vcl_listI l (fun pre => ∀ a ∈ pre, p a = false) (fun pre => envOf [(0, .d (.list 3 (l.map encAsk))), (1, .d (.fn (.func g) [] caps)), (7, .d (I (l.map encAsk).length)), (8, .d (I pre.length))]) (fun pre => []) (by simp) ?step ?done
 case step =>
  intro pre x post h hj ih
  have hlt := lt_len h
  refine vcl_unroll ?_
  repeat (first | refine xp ?_ | refine xs ?_ | refine xR ?_ | refine xa ?_ | refine xw ?_ | refine xn ?_ | refine xb ?_ | refine xq ?_ | refine vc_seq ?_ | refine vc_skip ?_ | refine xr ?_ | refine xd ?_ | refine vc_block ?_ | refine vc_exit ?_ | refine vc_condT rfl ?_ | refine vc_condF rfl ?_)
  refine vc_cond rfl (fun _ => ?_) (fun hf => absurd hf (by simp; omega))
  repeat (first | refine xp ?_ | refine xs ?_ | refine xR ?_ | refine xa ?_ | refine xw ?_ | refine xn ?_ | refine xb ?_ | refine xq ?_ | refine vc_seq ?_ | refine vc_skip ?_ | refine xr ?_ | refine xd ?_ | refine vc_block ?_ | refine vc_exit ?_ | refine vc_condT rfl ?_ | refine vc_condF rfl ?_)
  refine ri rfl rfl rfl rfl rfl rfl rfl (by omega) (idx_map h) ?_
  repeat (first | refine xp ?_ | refine xs ?_ | refine xR ?_ | refine xa ?_ | refine xw ?_ | refine xn ?_ | refine xb ?_ | refine xq ?_ | refine vc_seq ?_ | refine vc_skip ?_ | refine xr ?_ | refine xd ?_ | refine vc_block ?_ | refine vc_exit ?_ | refine vc_condT rfl ?_ | refine vc_condF rfl ?_)
  refine xc (hp x (by subst h; simp)) ?_
  repeat (first | refine xp ?_ | refine xs ?_ | refine xR ?_ | refine xa ?_ | refine xw ?_ | refine xn ?_ | refine xb ?_ | refine xq ?_ | refine vc_seq ?_ | refine vc_skip ?_ | refine xr ?_ | refine xd ?_ | refine vc_block ?_ | refine vc_exit ?_ | refine vc_condT rfl ?_ | refine vc_condF rfl ?_)
  refine vc_cond rfl (fun hx => ?_) (fun hx => ?_)
  ·repeat (first | refine xp ?_ | refine xs ?_ | refine xR ?_ | refine xa ?_ | refine xw ?_ | refine xn ?_ | refine xb ?_ | refine xq ?_ | refine vc_seq ?_ | refine vc_skip ?_ | refine xr ?_ | refine xd ?_ | refine vc_block ?_ | refine vc_exit ?_ | refine vc_condT rfl ?_ | refine vc_condF rfl ?_)
   refine vc_ret ⟨.inr rfl, _, .cons rfl ⟨_, .d, .refl⟩ .nil, ?_⟩
   rw [idx_found h hj (by simpa using hx)]
  ·have hx' : p x = false := by simpa using hx
   repeat (first | refine xp ?_ | refine xs ?_ | refine xR ?_ | refine xa ?_ | refine xw ?_ | refine xn ?_ | refine xb ?_ | refine xq ?_ | refine vc_seq ?_ | refine vc_skip ?_ | refine xr ?_ | refine xd ?_ | refine vc_block ?_ | refine vc_exit ?_ | refine vc_condT rfl ?_ | refine vc_condF rfl ?_)
   exact vcl_go (ih (fun a ha => by rcases List.mem_append.1 ha with ha | ha; exact hj a ha; simp at ha; subst ha; exact hx')) 0 rfl (Nat.le_refl _) (Nat.le_refl _) rfl rfl ⟨.f rfl, .f rfl, .f rfl, .f2 rfl (by rw [i64_wrap (by omega) (by omega)]; simp), trivial⟩
 case done =>
  intro hj
  refine vcl_unroll ?_
  repeat (first | refine xp ?_ | refine xs ?_ | refine xR ?_ | refine xa ?_ | refine xw ?_ | refine xn ?_ | refine xb ?_ | refine xq ?_ | refine vc_seq ?_ | refine vc_skip ?_ | refine xr ?_ | refine xd ?_ | refine vc_block ?_ | refine vc_exit ?_ | refine vc_condT rfl ?_ | refine vc_condF rfl ?_)
  refine vc_cond rfl (fun ht => absurd ht (by simp)) (fun _ => ?_)
  repeat (first | refine xp ?_ | refine xs ?_ | refine xR ?_ | refine xa ?_ | refine xw ?_ | refine xn ?_ | refine xb ?_ | refine xq ?_ | refine vc_seq ?_ | refine vc_skip ?_ | refine xr ?_ | refine xd ?_ | refine vc_block ?_ | refine vc_exit ?_ | refine vc_condT rfl ?_ | refine vc_condF rfl ?_)
  refine vc_ret ⟨.inr rfl, _, .cons rfl ⟨_, .d, .refl⟩ .nil, ?_⟩
  rw [idx_none hj]
theorem onlyAsk_ok {g : FuncId} {caps : List D} (l : List Ask) (p : Ask → Bool) (hp : ∀ a ∈ l, PCalls Tryz.prog g (encAsk a :: caps) (B (p a))) (hl : l.length ≤ 4000000) :
  GCalls Tryz.prog 40 [.d (.list 3 (l.map encAsk)), .d (.fn (.func g) [] caps)] [] (.osl 0 (l.filter p).length) [.arr 63 3 ((l.filter p).map encAsk)] := by
 refine gcalls_of_vc tabOk 23 Tryz.func40 rfl (by kernel_rfl) rfl rfl ?_
 refine xsr ?_
 repeat (first | refine xp ?_ | refine xs ?_ | refine xR ?_ | refine xa ?_ | refine xw ?_ | refine xn ?_ | refine xb ?_)
 refine xq ?_
 refine xsr ?_
 repeat (first | refine xp ?_ | refine xs ?_ | refine xR ?_ | refine xa ?_ | refine xw ?_ | refine xn ?_ | refine xb ?_)
 refine xq ?_
 refine VC.weak (weak_ownNil 5 63 3 rfl rfl) ?_
 repeat (first | refine xp ?_ | refine xs ?_ | refine xR ?_ | refine xa ?_ | refine xw ?_ | refine xn ?_ | refine xq ?_ | refine vc_seq ?_ | refine vc_skip ?_ | refine xr ?_ | refine xd ?_ | refine vc_block ?_ | refine vc_exit ?_ | refine vc_condT rfl ?_ | refine vc_condF rfl ?_)
 refine vc_loop ?_
 refine vcl_keep [(1, _), (5, _), (8, _), (9, _), (10, _)] 1 ⟨.f rfl, .f rfl, .f rfl, .f rfl, .f rfl, trivial⟩ rfl (Nat.zero_le _) (Nat.le_refl _) rfl rfl ?_
 refine vcl_list l (fun pre => envOf [(1, .d (.fn (.func g) [] caps)), (5, .osl 0 (pre.filter p).length), (8, .d (.list 3 (l.map encAsk))), (9, .d (I (l.map encAsk).length)), (10, .d (I pre.length))]) (fun pre => [.arr 63 3 ((pre.filter p).map encAsk)]) ?step ?done
 case step =>
  intro pre x post h ih
  have hlt := lt_len h
  have hfl := List.length_filter_le p pre
  refine vcl_unroll ?_
  repeat (first | refine xp ?_ | refine xs ?_ | refine xR ?_ | refine xa ?_ | refine xw ?_ | refine xn ?_ | refine xb ?_ | refine xq ?_ | refine vc_seq ?_ | refine vc_skip ?_ | refine xr ?_ | refine xd ?_ | refine vc_block ?_ | refine vc_exit ?_ | refine vc_condT rfl ?_ | refine vc_condF rfl ?_)
  refine vc_cond rfl (fun _ => ?_) (fun hf => absurd hf (by simp; omega))
  repeat (first | refine xp ?_ | refine xs ?_ | refine xR ?_ | refine xa ?_ | refine xw ?_ | refine xn ?_ | refine xb ?_ | refine xq ?_ | refine vc_seq ?_ | refine vc_skip ?_ | refine xr ?_ | refine xd ?_ | refine vc_block ?_ | refine vc_exit ?_ | refine vc_condT rfl ?_ | refine vc_condF rfl ?_)
  refine ri rfl rfl rfl rfl rfl rfl rfl (by omega) (idx_map h) ?_
  repeat (first | refine xp ?_ | refine xs ?_ | refine xR ?_ | refine xa ?_ | refine xw ?_ | refine xn ?_ | refine xb ?_ | refine xq ?_ | refine vc_seq ?_ | refine vc_skip ?_ | refine xr ?_ | refine xd ?_ | refine vc_block ?_ | refine vc_exit ?_ | refine vc_condT rfl ?_ | refine vc_condF rfl ?_)
  refine xc (hp x (by subst h; simp)) ?_
  repeat (first | refine xp ?_ | refine xs ?_ | refine xR ?_ | refine xa ?_ | refine xw ?_ | refine xn ?_ | refine xb ?_ | refine xq ?_ | refine vc_seq ?_ | refine vc_skip ?_ | refine xr ?_ | refine xd ?_ | refine vc_block ?_ | refine vc_exit ?_ | refine vc_condT rfl ?_ | refine vc_condF rfl ?_)
  refine vc_cond rfl (fun hx => ?_) (fun hx => ?_)
  ·have hx' : p x = true := by simpa using hx
   repeat (first | refine xp ?_ | refine xs ?_ | refine xR ?_ | refine xa ?_ | refine xw ?_ | refine xn ?_ | refine xb ?_ | refine xq ?_ | refine vc_seq ?_ | refine vc_skip ?_ | refine xr ?_ | refine xd ?_ | refine vc_block ?_ | refine vc_exit ?_ | refine vc_condT rfl ?_ | refine vc_condF rfl ?_)
   refine rap rfl rfl rfl rfl rfl rfl rfl rfl .list rfl rfl rfl rfl (by simp) (by simp; omega) (by simp; omega) ?_
   repeat (first | refine xp ?_ | refine xs ?_ | refine xR ?_ | refine xa ?_ | refine xw ?_ | refine xn ?_ | refine xb ?_ | refine xq ?_ | refine vc_seq ?_ | refine vc_skip ?_ | refine xr ?_ | refine xd ?_ | refine vc_block ?_ | refine vc_exit ?_ | refine vc_condT rfl ?_ | refine vc_condF rfl ?_)
   refine vcl_go ih 1 (by simp [hx']; rfl) (Nat.zero_le _) (by simp) rfl rfl ⟨.f rfl, .f2 rfl (by simp [hx']), .f rfl, .f rfl, .f2 rfl (by rw [i64_wrap (by omega) (by omega)]; simp), trivial⟩
  ·have hx' : p x = false := by simpa using hx
   repeat (first | refine xp ?_ | refine xs ?_ | refine xR ?_ | refine xa ?_ | refine xw ?_ | refine xn ?_ | refine xb ?_ | refine xq ?_ | refine vc_seq ?_ | refine vc_skip ?_ | refine xr ?_ | refine xd ?_ | refine vc_block ?_ | refine vc_exit ?_ | refine vc_condT rfl ?_ | refine vc_condF rfl ?_)
   refine vcl_go ih 1 (by simp [hx']) (Nat.zero_le _) (by simp) rfl rfl ⟨.f rfl, .f2 rfl (by simp [hx']), .f rfl, .f rfl, .f2 rfl (by rw [i64_wrap (by omega) (by omega)]; simp), trivial⟩
 case done =>
  refine vcl_unroll ?_
  repeat (first | refine xp ?_ | refine xs ?_ | refine xR ?_ | refine xa ?_ | refine xw ?_ | refine xn ?_ | refine xb ?_ | refine xq ?_ | refine vc_seq ?_ | refine vc_skip ?_ | refine xr ?_ | refine xd ?_ | refine vc_block ?_ | refine vc_exit ?_ | refine vc_condT rfl ?_ | refine vc_condF rfl ?_)
  refine vc_cond rfl (fun ht => absurd ht (by simp)) (fun _ => ?_)
  repeat (first | refine xp ?_ | refine xs ?_ | refine xR ?_ | refine xa ?_ | refine xw ?_ | refine xn ?_ | refine xb ?_ | refine xq ?_ | refine vc_seq ?_ | refine vc_skip ?_ | refine xr ?_ | refine xd ?_ | refine vc_block ?_ | refine vc_exit ?_ | refine vc_condT rfl ?_ | refine vc_condF rfl ?_)
  refine vc_ret ⟨.inr rfl, [0], _, ⟨rfl, by decide, rfl, rfl, .cons rfl .nil, rfl, .f rfl⟩⟩
end Go.VM.Tryz
namespace Go.VM.Tryz
open Go.Proofs
theorem filter_take_idx {α : Type} {p : α → Bool} {l : List α} {i : Nat} (h : l.findIdx? p = some i) : (l.take i).filter (fun a => !p a) = l.take i ∧ i < l.length ∧ ∀ x, l[i]? = some x → p x = true := by
 obtain ⟨hi, h1, h2⟩ := List.findIdx?_eq_some_iff_getElem.1 h
 refine ⟨List.filter_eq_self.2 fun a ha => ?_, hi, fun x hx => ?_⟩
 ·obtain ⟨j, hj, rfl⟩ := List.getElem_of_mem ha
  simp at hj
  have := h2 j (by omega)
  simp only [List.getElem_take]
  simpa using this
 ·rw [List.getElem?_eq_getElem hi] at hx; simp at hx; subst hx; exact h1
theorem idx_lt {α : Type} {p : α → Bool} {l : List α} (h : idx p l ≠ -1) : ∃ i, l.findIdx? p = some i ∧ idx p l = i := by
 unfold idx at *
 cases hf : l.findIdx? p with
 | none => rw [hf] at h; exact absurd rfl h
 | some i => exact ⟨i, rfl, rfl⟩
theorem idx_ne {α : Type} {p : α → Bool} {l : List α} (h : idx p l = -1) : l.filter (fun a => !p a) = l := by
 unfold idx at h
 cases hf : l.findIdx? p with
 | none => rw [List.findIdx?_eq_none_iff] at hf; exact List.filter_eq_self.2 fun a ha => by simp [hf a ha]
 | some i => rw [hf] at h; simp at h
def mid {α : Type} (p : α → Bool) (l pre : List α) : List α := pre.filter (fun a => !p a) ++ l.drop (pre.filter (fun a => !p a)).length
theorem mid_len {α : Type} {p : α → Bool} {l pre post : List α} (h : l = pre ++ post) : (mid p l pre).length = l.length := by
 have := List.length_filter_le (fun a => !p a) pre
 subst h; simp [mid]; omega
theorem mid_get {α : Type} {p : α → Bool} {l pre post : List α} {x : α} (h : l = pre ++ x :: post) : (mid p l pre)[pre.length]? = some x := by
 have := List.length_filter_le (fun a => !p a) pre
 simp only [mid]
 rw [List.getElem?_append_right (by omega), List.getElem?_drop]
 rw [show (pre.filter (fun a => !p a)).length + (pre.length - (pre.filter (fun a => !p a)).length) = pre.length by omega]
 subst h; simp
theorem mid_set {α : Type} {p : α → Bool} {l pre post : List α} {x : α} (h : l = pre ++ x :: post) (hx : p x = false) : (mid p l pre).set (pre.filter (fun a => !p a)).length x = mid p l (pre ++ [x]) := by
 have := List.length_filter_le (fun a => !p a) pre
 have hl : (pre.filter (fun a => !p a)).length < l.length := by subst h; simp; omega
 simp only [mid, List.filter_append, List.filter_cons, hx, List.filter_nil, List.length_append]
 simp only [Bool.not_false, if_true, List.length_cons, List.length_nil]
 rw [List.set_append_right _ _ (Nat.le_refl _), Nat.sub_self, List.append_assoc]
 congr 1
 rw [List.drop_eq_getElem_cons hl]
 rfl
theorem mid_skip {α : Type} {p : α → Bool} {l pre : List α} {x : α} (hx : p x = true) : mid p l pre = mid p l (pre ++ [x]) := by
 simp [mid, hx]
theorem mid_all {α : Type} {p : α → Bool} {l : List α} : (mid p l l).take (l.filter (fun a => !p a)).length = l.filter (fun a => !p a) := by
 simp [mid]
theorem deleteGrant_ok {g : FuncId} {caps : List D} (l : List Grant) (p : Grant → Bool) (hp : ∀ a ∈ l, PCalls Tryz.prog g (encGrant a :: caps) (B (p a))) (hl : l.length ≤ 4000000) :
  GCalls Tryz.prog 131 [.osl 0 l.length, .d (.fn (.func g) [] caps)] [.arr 59 5 (l.map encGrant)] (.osl 1 (l.filter fun a => !p a).length) [.dead, .arr 59 5 ((l.filter fun a => !p a).map encGrant)] := by
 refine gcalls_of_vc tabOk 42 Tryz.func131 rfl (by kernel_rfl) rfl rfl ?_
 repeat (first | refine xp ?_ | refine xs ?_ | refine xR ?_ | refine xa ?_ | refine xw ?_ | refine xn ?_ | refine xb ?_ | refine xq ?_ | refine vc_seq ?_ | refine vc_skip ?_ | refine xr ?_ | refine xd ?_ | refine vc_block ?_ | refine vc_exit ?_ | refine vc_condT rfl ?_ | refine vc_condF rfl ?_)
 refine rcr rfl rfl rfl rfl (by exact .cons (.osl rfl (by simp)) (.cons .d .nil)) (indexGrant_ok l p hp hl) rfl ?_
 repeat (first | refine xp ?_ | refine xs ?_ | refine xR ?_ | refine xa ?_ | refine xw ?_ | refine xn ?_ | refine xb ?_ | refine xq ?_ | refine vc_seq ?_ | refine vc_skip ?_ | refine xr ?_ | refine xd ?_ | refine vc_block ?_ | refine vc_exit ?_ | refine vc_condT rfl ?_ | refine vc_condF rfl ?_)
 refine vc_cond rfl (fun hc => ?_) (fun hc => ?_)
 ·have hi : idx p l = -1 := by simpa using hc
  rw [idx_ne hi]
  repeat (first | refine xp ?_ | refine xs ?_ | refine xR ?_ | refine xa ?_ | refine xw ?_ | refine xn ?_ | refine xb ?_ | refine xq ?_ | refine vc_seq ?_ | refine vc_skip ?_ | refine xr ?_ | refine xd ?_ | refine vc_block ?_ | refine vc_exit ?_ | refine vc_condT rfl ?_ | refine vc_condF rfl ?_)
  refine VC.weak (weak_move 4 rfl rfl (by simp) rfl) ?_
  refine vc_ret ⟨.inr rfl, [0, 1], _, ⟨rfl, by decide, rfl, rfl, .cons rfl .nil, rfl, .f rfl⟩⟩
 ·obtain ⟨i0, hi0, hi⟩ := idx_lt (p := p) (l := l) (fun h => by simp [h] at hc)
  obtain ⟨q1, q2, q3⟩ := filter_take_idx hi0
  rw [hi]
  repeat (first | refine xp ?_ | refine xs ?_ | refine xR ?_ | refine xa ?_ | refine xw ?_ | refine xn ?_ | refine xb ?_ | refine xq ?_ | refine vc_seq ?_ | refine vc_skip ?_ | refine xr ?_ | refine xd ?_ | refine vc_block ?_ | refine vc_exit ?_ | refine vc_condT rfl ?_ | refine vc_condF rfl ?_)
  refine vc_loop ?_
  have e1 : l = l.take (i0 + 1) ++ l.drop (i0 + 1) := (List.take_append_drop _ _).symm
  have e2 : (l.take (i0 + 1)).filter (fun a => !p a) = l.take i0 := by
   rw [List.take_succ_eq_append_getElem q2, List.filter_append, q1]
   simp [q3 _ (List.getElem?_eq_getElem q2)]
  have e3 : mid p l (l.take (i0 + 1)) = l := by simp only [mid, e2]; rw [List.length_take, Nat.min_eq_left (by omega), List.take_append_drop]
  have e4 : (l.take (i0 + 1)).length = i0 + 1 := by simp; omega
  have e5 : (l.take i0).length = i0 := by simp; omega
  have hw : IntKind.i64.wrap ((i0 : Int) + 1) = i0 + 1 := i64_wrap (by omega) (by omega)
  refine vcl_keep [(0, .osl 0 l.length), (1, .d (.fn (.func g) [] caps)), (5, .d (I ((l.take (i0 + 1)).filter fun a => !p a).length)), (6, .d (I (l.take (i0 + 1)).length))] 1 ⟨.f rfl, .f rfl, .f2 rfl (by rw [e2, e5]), .f2 rfl (by rw [e4, hw]; simp), trivial⟩ (σ' := [.arr 59 5 ((mid p l (l.take (i0 + 1))).map encGrant)]) (by rw [e3]; rfl) (Nat.le_refl _) (Nat.le_refl _) rfl rfl ?_
  refine vcl_from l (fun pre => pre.length ≤ l.length) (fun pre => envOf [(0, .osl 0 l.length), (1, .d (.fn (.func g) [] caps)), (5, .d (I (pre.filter fun a => !p a).length)), (6, .d (I pre.length))]) (fun pre => [.arr 59 5 ((mid p l pre).map encGrant)]) ?step ?done (l.take (i0 + 1)) (l.drop (i0 + 1)) e1 (by rw [e4]; omega)
  case step =>
   intro pre x post h hj ih
   have hlt := lt_len h
   have hfl := List.length_filter_le (fun a => !p a) pre
   have hml : (mid p l pre).length = l.length := mid_len h
   refine vcl_unroll ?_
   repeat (first | refine xp ?_ | refine xs ?_ | refine xR ?_ | refine xa ?_ | refine xw ?_ | refine xn ?_ | refine xb ?_ | refine xq ?_ | refine vc_seq ?_ | refine vc_skip ?_ | refine xr ?_ | refine xd ?_ | refine vc_block ?_ | refine vc_exit ?_ | refine vc_condT rfl ?_ | refine vc_condF rfl ?_)
   refine vc_cond rfl (fun _ => ?_) (fun hf => absurd hf (by simp; omega))
   repeat (first | refine xp ?_ | refine xs ?_ | refine xR ?_ | refine xa ?_ | refine xw ?_ | refine xn ?_ | refine xb ?_ | refine xq ?_ | refine vc_seq ?_ | refine vc_skip ?_ | refine xr ?_ | refine xd ?_ | refine vc_block ?_ | refine vc_exit ?_ | refine vc_condT rfl ?_ | refine vc_condF rfl ?_)
   refine rio rfl rfl rfl rfl rfl rfl rfl rfl (by simp [hml]) (by omega) (by omega) ?_
   refine rlo rfl rfl rfl rfl rfl rfl rfl (by simp [hml]) (by rw [List.getElem?_map]; erw [mid_get h]; rfl) rfl ?_
   repeat (first | refine xp ?_ | refine xs ?_ | refine xR ?_ | refine xa ?_ | refine xw ?_ | refine xn ?_ | refine xb ?_ | refine xq ?_ | refine vc_seq ?_ | refine vc_skip ?_ | refine xr ?_ | refine xd ?_ | refine vc_block ?_ | refine vc_exit ?_ | refine vc_condT rfl ?_ | refine vc_condF rfl ?_)
   refine xc (hp x (by subst h; simp)) ?_
   repeat (first | refine xp ?_ | refine xs ?_ | refine xR ?_ | refine xa ?_ | refine xw ?_ | refine xn ?_ | refine xb ?_ | refine xq ?_ | refine vc_seq ?_ | refine vc_skip ?_ | refine xr ?_ | refine xd ?_ | refine vc_block ?_ | refine vc_exit ?_ | refine vc_condT rfl ?_ | refine vc_condF rfl ?_)
   cases hx : p x
   ·repeat (first | refine xp ?_ | refine xs ?_ | refine xR ?_ | refine xa ?_ | refine xw ?_ | refine xn ?_ | refine xb ?_ | refine xq ?_ | refine vc_seq ?_ | refine vc_skip ?_ | refine xr ?_ | refine xd ?_ | refine vc_block ?_ | refine vc_exit ?_ | refine vc_condT rfl ?_ | refine vc_condF rfl ?_)
    refine rio rfl rfl rfl rfl rfl rfl rfl rfl (by simp [hml]) (by omega) (by omega) ?_
    have hz : ((mid p l pre).map encGrant)[(pre.filter fun a => !p a).length]? = some (encGrant ((mid p l pre)[(pre.filter fun a => !p a).length]'(by omega))) := by
     rw [List.getElem?_map, List.getElem?_eq_getElem (by omega)]; rfl
    refine rso rfl rfl rfl rfl rfl rfl rfl rfl rfl (by simp [hml]) (by simpa using hz) (by exact Nat.le_refl _) rfl ?_
    repeat (first | refine xp ?_ | refine xs ?_ | refine xR ?_ | refine xa ?_ | refine xw ?_ | refine xn ?_ | refine xb ?_ | refine xq ?_ | refine vc_seq ?_ | refine vc_skip ?_ | refine xr ?_ | refine xd ?_ | refine vc_block ?_ | refine vc_exit ?_ | refine vc_condT rfl ?_ | refine vc_condF rfl ?_)
    refine vcl_go (ih (by simp; omega)) 1 ?_ (Nat.le_refl _) (by simp) rfl rfl ⟨.f rfl, .f rfl, .f2 rfl (by rw [i64_wrap (by omega) (by omega)]; simp [hx]), .f2 rfl (by rw [i64_wrap (by omega) (by omega)]; simp), trivial⟩
    rw [← mid_set h hx, List.map_set]
    simp
    rfl
   ·repeat (first | refine xp ?_ | refine xs ?_ | refine xR ?_ | refine xa ?_ | refine xw ?_ | refine xn ?_ | refine xb ?_ | refine xq ?_ | refine vc_seq ?_ | refine vc_skip ?_ | refine xr ?_ | refine xd ?_ | refine vc_block ?_ | refine vc_exit ?_ | refine vc_condT rfl ?_ | refine vc_condF rfl ?_)
    refine vcl_go (ih (by simp; omega)) 1 (by rw [← mid_skip hx]; rfl) (Nat.le_refl _) (by simp) rfl rfl ⟨.f rfl, .f rfl, .f2 rfl (by simp [hx]), .f2 rfl (by rw [i64_wrap (by omega) (by omega)]; simp), trivial⟩
  case done =>
   intro _
   have hfl := List.length_filter_le (fun a => !p a) l
   have hml : (mid p l l).length = l.length := mid_len (post := []) (by simp)
   refine vcl_unroll ?_
   repeat (first | refine xp ?_ | refine xs ?_ | refine xR ?_ | refine xa ?_ | refine xw ?_ | refine xn ?_ | refine xb ?_ | refine xq ?_ | refine vc_seq ?_ | refine vc_skip ?_ | refine xr ?_ | refine xd ?_ | refine vc_block ?_ | refine vc_exit ?_ | refine vc_condT rfl ?_ | refine vc_condF rfl ?_)
   refine vc_cond rfl (fun ht => absurd ht (by simp)) (fun _ => ?_)
   repeat (first | refine xp ?_ | refine xs ?_ | refine xR ?_ | refine xa ?_ | refine xw ?_ | refine xn ?_ | refine xb ?_ | refine xq ?_ | refine vc_seq ?_ | refine vc_skip ?_ | refine xr ?_ | refine xd ?_ | refine vc_block ?_ | refine vc_exit ?_ | refine vc_condT rfl ?_ | refine vc_condF rfl ?_)
   refine rtl rfl rfl rfl rfl rfl rfl rfl rfl (by simp [hml]) (by omega) (by omega) ?_
   refine rcl rfl rfl rfl rfl rfl rfl rfl rfl rfl rfl rfl (by omega) (by simp [hml]) ?_
   repeat (first | refine xp ?_ | refine xs ?_ | refine xR ?_ | refine xa ?_ | refine xw ?_ | refine xn ?_ | refine xb ?_ | refine xq ?_ | refine vc_seq ?_ | refine vc_skip ?_ | refine xr ?_ | refine xd ?_ | refine vc_block ?_ | refine vc_exit ?_ | refine vc_condT rfl ?_ | refine vc_condF rfl ?_)
   refine rtr rfl rfl rfl rfl rfl rfl rfl rfl (by simp [hml]; omega) (by omega) (by omega) rfl ?_
   repeat (first | refine xp ?_ | refine xs ?_ | refine xR ?_ | refine xa ?_ | refine xw ?_ | refine xn ?_ | refine xb ?_ | refine xq ?_ | refine vc_seq ?_ | refine vc_skip ?_ | refine xr ?_ | refine xd ?_ | refine vc_block ?_ | refine vc_exit ?_ | refine vc_condT rfl ?_ | refine vc_condF rfl ?_)
   refine vc_ret ⟨.inr rfl, [0, 1], _, ⟨rfl, by decide, ?_, rfl, .cons rfl .nil, rfl, .f2 rfl (osl_congr (by simp))⟩⟩
   simp
   rw [List.take_append_of_le_length (by simp [hml]; omega), List.take_take, Nat.min_self, ← List.map_take, mid_all]
theorem deleteAsk_ok {g : FuncId} {caps : List D} (l : List Ask) (p : Ask → Bool) (hp : ∀ a ∈ l, PCalls Tryz.prog g (encAsk a :: caps) (B (p a))) (hl : l.length ≤ 4000000) :
  GCalls Tryz.prog 147 [.osl 0 l.length, .d (.fn (.func g) [] caps)] [.arr 63 3 (l.map encAsk)] (.osl 1 (l.filter fun a => !p a).length) [.dead, .arr 63 3 ((l.filter fun a => !p a).map encAsk)] := by
 refine gcalls_of_vc tabOk 42 Tryz.func147 rfl (by kernel_rfl) rfl rfl ?_
 repeat (first | refine xp ?_ | refine xs ?_ | refine xR ?_ | refine xa ?_ | refine xw ?_ | refine xn ?_ | refine xb ?_ | refine xq ?_ | refine vc_seq ?_ | refine vc_skip ?_ | refine xr ?_ | refine xd ?_ | refine vc_block ?_ | refine vc_exit ?_ | refine vc_condT rfl ?_ | refine vc_condF rfl ?_)
 refine rcr rfl rfl rfl rfl (by exact .cons (.osl rfl (by simp)) (.cons .d .nil)) (indexAsk_ok l p hp hl) rfl ?_
 repeat (first | refine xp ?_ | refine xs ?_ | refine xR ?_ | refine xa ?_ | refine xw ?_ | refine xn ?_ | refine xb ?_ | refine xq ?_ | refine vc_seq ?_ | refine vc_skip ?_ | refine xr ?_ | refine xd ?_ | refine vc_block ?_ | refine vc_exit ?_ | refine vc_condT rfl ?_ | refine vc_condF rfl ?_)
 refine vc_cond rfl (fun hc => ?_) (fun hc => ?_)
 ·have hi : idx p l = -1 := by simpa using hc
  rw [idx_ne hi]
  repeat (first | refine xp ?_ | refine xs ?_ | refine xR ?_ | refine xa ?_ | refine xw ?_ | refine xn ?_ | refine xb ?_ | refine xq ?_ | refine vc_seq ?_ | refine vc_skip ?_ | refine xr ?_ | refine xd ?_ | refine vc_block ?_ | refine vc_exit ?_ | refine vc_condT rfl ?_ | refine vc_condF rfl ?_)
  refine VC.weak (weak_move 4 rfl rfl (by simp) rfl) ?_
  refine vc_ret ⟨.inr rfl, [0, 1], _, ⟨rfl, by decide, rfl, rfl, .cons rfl .nil, rfl, .f rfl⟩⟩
 ·obtain ⟨i0, hi0, hi⟩ := idx_lt (p := p) (l := l) (fun h => by simp [h] at hc)
  obtain ⟨q1, q2, q3⟩ := filter_take_idx hi0
  rw [hi]
  repeat (first | refine xp ?_ | refine xs ?_ | refine xR ?_ | refine xa ?_ | refine xw ?_ | refine xn ?_ | refine xb ?_ | refine xq ?_ | refine vc_seq ?_ | refine vc_skip ?_ | refine xr ?_ | refine xd ?_ | refine vc_block ?_ | refine vc_exit ?_ | refine vc_condT rfl ?_ | refine vc_condF rfl ?_)
  refine vc_loop ?_
  have e1 : l = l.take (i0 + 1) ++ l.drop (i0 + 1) := (List.take_append_drop _ _).symm
  have e2 : (l.take (i0 + 1)).filter (fun a => !p a) = l.take i0 := by
   rw [List.take_succ_eq_append_getElem q2, List.filter_append, q1]
   simp [q3 _ (List.getElem?_eq_getElem q2)]
  have e3 : mid p l (l.take (i0 + 1)) = l := by simp only [mid, e2]; rw [List.length_take, Nat.min_eq_left (by omega), List.take_append_drop]
  have e4 : (l.take (i0 + 1)).length = i0 + 1 := by simp; omega
  have e5 : (l.take i0).length = i0 := by simp; omega
  have hw : IntKind.i64.wrap ((i0 : Int) + 1) = i0 + 1 := i64_wrap (by omega) (by omega)
  refine vcl_keep [(0, .osl 0 l.length), (1, .d (.fn (.func g) [] caps)), (5, .d (I ((l.take (i0 + 1)).filter fun a => !p a).length)), (6, .d (I (l.take (i0 + 1)).length))] 1 ⟨.f rfl, .f rfl, .f2 rfl (by rw [e2, e5]), .f2 rfl (by rw [e4, hw]; simp), trivial⟩ (σ' := [.arr 63 3 ((mid p l (l.take (i0 + 1))).map encAsk)]) (by rw [e3]; rfl) (Nat.le_refl _) (Nat.le_refl _) rfl rfl ?_
  refine vcl_from l (fun pre => pre.length ≤ l.length) (fun pre => envOf [(0, .osl 0 l.length), (1, .d (.fn (.func g) [] caps)), (5, .d (I (pre.filter fun a => !p a).length)), (6, .d (I pre.length))]) (fun pre => [.arr 63 3 ((mid p l pre).map encAsk)]) ?step ?done (l.take (i0 + 1)) (l.drop (i0 + 1)) e1 (by rw [e4]; omega)
  case step =>
   intro pre x post h hj ih
   have hlt := lt_len h
   have hfl := List.length_filter_le (fun a => !p a) pre
   have hml : (mid p l pre).length = l.length := mid_len h
   refine vcl_unroll ?_
   repeat (first | refine xp ?_ | refine xs ?_ | refine xR ?_ | refine xa ?_ | refine xw ?_ | refine xn ?_ | refine xb ?_ | refine xq ?_ | refine vc_seq ?_ | refine vc_skip ?_ | refine xr ?_ | refine xd ?_ | refine vc_block ?_ | refine vc_exit ?_ | refine vc_condT rfl ?_ | refine vc_condF rfl ?_)
   refine vc_cond rfl (fun _ => ?_) (fun hf => absurd hf (by simp; omega))
   repeat (first | refine xp ?_ | refine xs ?_ | refine xR ?_ | refine xa ?_ | refine xw ?_ | refine xn ?_ | refine xb ?_ | refine xq ?_ | refine vc_seq ?_ | refine vc_skip ?_ | refine xr ?_ | refine xd ?_ | refine vc_block ?_ | refine vc_exit ?_ | refine vc_condT rfl ?_ | refine vc_condF rfl ?_)
   refine rio rfl rfl rfl rfl rfl rfl rfl rfl (by simp [hml]) (by omega) (by omega) ?_
   refine rlo rfl rfl rfl rfl rfl rfl rfl (by simp [hml]) (by rw [List.getElem?_map]; erw [mid_get h]; rfl) rfl ?_
   repeat (first | refine xp ?_ | refine xs ?_ | refine xR ?_ | refine xa ?_ | refine xw ?_ | refine xn ?_ | refine xb ?_ | refine xq ?_ | refine vc_seq ?_ | refine vc_skip ?_ | refine xr ?_ | refine xd ?_ | refine vc_block ?_ | refine vc_exit ?_ | refine vc_condT rfl ?_ | refine vc_condF rfl ?_)
   refine xc (hp x (by subst h; simp)) ?_
   repeat (first | refine xp ?_ | refine xs ?_ | refine xR ?_ | refine xa ?_ | refine xw ?_ | refine xn ?_ | refine xb ?_ | refine xq ?_ | refine vc_seq ?_ | refine vc_skip ?_ | refine xr ?_ | refine xd ?_ | refine vc_block ?_ | refine vc_exit ?_ | refine vc_condT rfl ?_ | refine vc_condF rfl ?_)
   cases hx : p x
   ·repeat (first | refine xp ?_ | refine xs ?_ | refine xR ?_ | refine xa ?_ | refine xw ?_ | refine xn ?_ | refine xb ?_ | refine xq ?_ | refine vc_seq ?_ | refine vc_skip ?_ | refine xr ?_ | refine xd ?_ | refine vc_block ?_ | refine vc_exit ?_ | refine vc_condT rfl ?_ | refine vc_condF rfl ?_)
    refine rio rfl rfl rfl rfl rfl rfl rfl rfl (by simp [hml]) (by omega) (by omega) ?_
    have hz : ((mid p l pre).map encAsk)[(pre.filter fun a => !p a).length]? = some (encAsk ((mid p l pre)[(pre.filter fun a => !p a).length]'(by omega))) := by
     rw [List.getElem?_map, List.getElem?_eq_getElem (by omega)]; rfl
    refine rso rfl rfl rfl rfl rfl rfl rfl rfl rfl (by simp [hml]) (by simpa using hz) (by exact Nat.le_refl _) rfl ?_
    repeat (first | refine xp ?_ | refine xs ?_ | refine xR ?_ | refine xa ?_ | refine xw ?_ | refine xn ?_ | refine xb ?_ | refine xq ?_ | refine vc_seq ?_ | refine vc_skip ?_ | refine xr ?_ | refine xd ?_ | refine vc_block ?_ | refine vc_exit ?_ | refine vc_condT rfl ?_ | refine vc_condF rfl ?_)
    refine vcl_go (ih (by simp; omega)) 1 ?_ (Nat.le_refl _) (by simp) rfl rfl ⟨.f rfl, .f rfl, .f2 rfl (by rw [i64_wrap (by omega) (by omega)]; simp [hx]), .f2 rfl (by rw [i64_wrap (by omega) (by omega)]; simp), trivial⟩
    rw [← mid_set h hx, List.map_set]
    simp
    rfl
   ·repeat (first | refine xp ?_ | refine xs ?_ | refine xR ?_ | refine xa ?_ | refine xw ?_ | refine xn ?_ | refine xb ?_ | refine xq ?_ | refine vc_seq ?_ | refine vc_skip ?_ | refine xr ?_ | refine xd ?_ | refine vc_block ?_ | refine vc_exit ?_ | refine vc_condT rfl ?_ | refine vc_condF rfl ?_)
    refine vcl_go (ih (by simp; omega)) 1 (by rw [← mid_skip hx]; rfl) (Nat.le_refl _) (by simp) rfl rfl ⟨.f rfl, .f rfl, .f2 rfl (by simp [hx]), .f2 rfl (by rw [i64_wrap (by omega) (by omega)]; simp), trivial⟩
  case done =>
   intro _
   have hfl := List.length_filter_le (fun a => !p a) l
   have hml : (mid p l l).length = l.length := mid_len (post := []) (by simp)
   refine vcl_unroll ?_
   repeat (first | refine xp ?_ | refine xs ?_ | refine xR ?_ | refine xa ?_ | refine xw ?_ | refine xn ?_ | refine xb ?_ | refine xq ?_ | refine vc_seq ?_ | refine vc_skip ?_ | refine xr ?_ | refine xd ?_ | refine vc_block ?_ | refine vc_exit ?_ | refine vc_condT rfl ?_ | refine vc_condF rfl ?_)
   refine vc_cond rfl (fun ht => absurd ht (by simp)) (fun _ => ?_)
   repeat (first | refine xp ?_ | refine xs ?_ | refine xR ?_ | refine xa ?_ | refine xw ?_ | refine xn ?_ | refine xb ?_ | refine xq ?_ | refine vc_seq ?_ | refine vc_skip ?_ | refine xr ?_ | refine xd ?_ | refine vc_block ?_ | refine vc_exit ?_ | refine vc_condT rfl ?_ | refine vc_condF rfl ?_)
   refine rtl rfl rfl rfl rfl rfl rfl rfl rfl (by simp [hml]) (by omega) (by omega) ?_
   refine rcl rfl rfl rfl rfl rfl rfl rfl rfl rfl rfl rfl (by omega) (by simp [hml]) ?_
   repeat (first | refine xp ?_ | refine xs ?_ | refine xR ?_ | refine xa ?_ | refine xw ?_ | refine xn ?_ | refine xb ?_ | refine xq ?_ | refine vc_seq ?_ | refine vc_skip ?_ | refine xr ?_ | refine xd ?_ | refine vc_block ?_ | refine vc_exit ?_ | refine vc_condT rfl ?_ | refine vc_condF rfl ?_)
   refine rtr rfl rfl rfl rfl rfl rfl rfl rfl (by simp [hml]; omega) (by omega) (by omega) rfl ?_
   repeat (first | refine xp ?_ | refine xs ?_ | refine xR ?_ | refine xa ?_ | refine xw ?_ | refine xn ?_ | refine xb ?_ | refine xq ?_ | refine vc_seq ?_ | refine vc_skip ?_ | refine xr ?_ | refine xd ?_ | refine vc_block ?_ | refine vc_exit ?_ | refine vc_condT rfl ?_ | refine vc_condF rfl ?_)
   refine vc_ret ⟨.inr rfl, [0, 1], _, ⟨rfl, by decide, ?_, rfl, .cons rfl .nil, rfl, .f2 rfl (osl_congr (by simp))⟩⟩
   simp
   rw [List.take_append_of_le_length (by simp [hml]; omega), List.take_take, Nat.min_self, ← List.map_take, mid_all]
end Go.VM.Tryz
namespace Go.VM.Tryz
open Go.Proofs
theorem wrap_nat {n : Nat} (h : n ≤ 4000000) : IntKind.i64.wrap ((n : Int) - IntKind.i64.wrap (0 - ((0 : Nat) : Int))) = n := by
 rw [i64_wrap (n := 0 - ((0 : Nat) : Int)) (by omega) (by omega), i64_wrap (by omega) (by omega)]; omega
theorem growGrant_ok (n : Nat) (hn : n ≤ 4000000) : GCalls Tryz.prog 146 [.d (.lit (.slice none 0 0)), .d (I n)] [] (.osl 0 0) [.arr 59 5 []] := by
 refine gcalls_of_vc tabOk 27 Tryz.func146 rfl (by kernel_rfl) rfl rfl ?_
 repeat (first | refine xp ?_ | refine xs ?_ | refine xR ?_ | refine xa ?_ | refine xw ?_ | refine xn ?_ | refine xb ?_ | refine xq ?_ | refine vc_seq ?_ | refine vc_skip ?_ | refine xr ?_ | refine xd ?_ | refine vc_block ?_ | refine vc_exit ?_ | refine vc_condT rfl ?_ | refine vc_condF rfl ?_)
 refine rcap rfl rfl rfl rfl rfl rfl rfl rfl rfl ?_
 repeat (first | refine xp ?_ | refine xs ?_ | refine xR ?_ | refine xa ?_ | refine xw ?_ | refine xn ?_ | refine xq ?_ | refine vc_seq ?_ | refine vc_skip ?_ | refine xr ?_ | refine xd ?_ | refine vc_block ?_ | refine vc_exit ?_ | refine vc_condT rfl ?_ | refine vc_condF rfl ?_)
 refine vc_cond rfl (fun hc => ?_) (fun hc => ?_)
 ·refine vc_keep [(0, .d (.lit (.slice none 0 0))), (1, .d (I n))] 0 ⟨.f rfl, .f2 rfl (by rw [wrap_nat hn]), trivial⟩ rfl (Nat.le_refl _) (Nat.le_refl _) rfl rfl ?_
  repeat (first | refine xp ?_ | refine xs ?_ | refine xR ?_ | refine xa ?_ | refine xw ?_ | refine xn ?_ | refine xq ?_ | refine vc_seq ?_ | refine vc_skip ?_ | refine xr ?_ | refine xd ?_ | refine vc_block ?_ | refine vc_exit ?_ | refine vc_condT rfl ?_ | refine vc_condF rfl ?_)
  refine rcap rfl rfl rfl rfl rfl rfl rfl rfl rfl ?_
  refine rsn0 rfl rfl rfl rfl rfl rfl rfl rfl ?_
  repeat (first | refine xp ?_ | refine xs ?_ | refine xR ?_ | refine xa ?_ | refine xw ?_ | refine xn ?_ | refine xq ?_ | refine vc_seq ?_ | refine vc_skip ?_ | refine xr ?_ | refine xd ?_ | refine vc_block ?_ | refine vc_exit ?_ | refine vc_condT rfl ?_ | refine vc_condF rfl ?_)
  refine rz rfl rfl rfl rfl rfl rfl rfl rfl rfl rfl rfl rfl rfl (by rw [wrap_nat hn] at hc; simp at hc; omega) (by show _ * 40 ≤ _; omega) (by omega) ?_
  repeat (first | refine xp ?_ | refine xs ?_ | refine xR ?_ | refine xa ?_ | refine xw ?_ | refine xn ?_ | refine xq ?_ | refine vc_seq ?_ | refine vc_skip ?_ | refine xr ?_ | refine xd ?_ | refine vc_block ?_ | refine vc_exit ?_ | refine vc_condT rfl ?_ | refine vc_condF rfl ?_)
  refine rtr rfl rfl rfl rfl rfl rfl rfl rfl (by simp) (by omega) (by omega) rfl ?_
  repeat (first | refine xp ?_ | refine xs ?_ | refine xR ?_ | refine xa ?_ | refine xw ?_ | refine xn ?_ | refine xq ?_ | refine vc_seq ?_ | refine vc_skip ?_ | refine xr ?_ | refine xd ?_ | refine vc_block ?_ | refine vc_exit ?_ | refine vc_condT rfl ?_ | refine vc_condF rfl ?_)
  refine vc_ret ⟨.inr rfl, [1], _, ⟨rfl, by decide, rfl, rfl, .cons rfl .nil, rfl, .f rfl⟩⟩
 ·repeat (first | refine xp ?_ | refine xs ?_ | refine xR ?_ | refine xa ?_ | refine xw ?_ | refine xn ?_ | refine xq ?_ | refine vc_seq ?_ | refine vc_skip ?_ | refine xr ?_ | refine xd ?_ | refine vc_block ?_ | refine vc_exit ?_ | refine vc_condT rfl ?_ | refine vc_condF rfl ?_)
  refine VC.weak (weak_ownNil 4 59 5 rfl rfl) ?_
  refine vc_ret ⟨.inr rfl, [0], _, ⟨rfl, by decide, rfl, rfl, .cons rfl .nil, rfl, .f rfl⟩⟩
theorem concatGrant_ok (ls : List (List D)) (hn : ls.flatten.length ≤ 4000000) (hk : ls.length ≤ 4000000) : GCalls Tryz.prog 136 [.d (.list 1 (ls.map (.list 5)))] [] (.osl 0 ls.flatten.length) [.arr 59 5 ls.flatten] := by
 refine gcalls_of_vc tabOk 36 Tryz.func136 rfl (by kernel_rfl) rfl rfl ?_
 repeat (first | refine xp ?_ | refine xs ?_ | refine xR ?_ | refine xa ?_ | refine xw ?_ | refine xn ?_ | refine xb ?_ | refine xq ?_ | refine vc_seq ?_ | refine vc_skip ?_ | refine xr ?_ | refine xd ?_ | refine vc_block ?_ | refine vc_exit ?_ | refine vc_condT rfl ?_ | refine vc_condF rfl ?_)
 refine vc_loop ?_
 refine vcl_keep [(0, _), (3, _), (9, _), (10, _), (11, _)] 0 ⟨.f rfl, .f rfl, .f rfl, .f rfl, .f rfl, trivial⟩ rfl (Nat.zero_le _) (Nat.le_refl _) rfl rfl ?_
 refine vcl_list ls (fun pre => envOf [(0, .d (.list 1 (ls.map (.list 5)))), (3, .d (I pre.flatten.length)), (9, .d (.list 1 (ls.map (.list 5)))), (10, .d (I (ls.map (D.list 5)).length)), (11, .d (I pre.length))]) (fun pre => []) ?step ?done
 case step =>
  intro pre x post h ih
  have hlt := lt_len h
  have hfl : pre.flatten.length + x.length ≤ ls.flatten.length := by subst h; simp <;> omega
  refine vcl_unroll ?_
  repeat (first | refine xp ?_ | refine xs ?_ | refine xR ?_ | refine xa ?_ | refine xw ?_ | refine xn ?_ | refine xb ?_ | refine xq ?_ | refine vc_seq ?_ | refine vc_skip ?_ | refine xr ?_ | refine xd ?_ | refine vc_block ?_ | refine vc_exit ?_ | refine vc_condT rfl ?_ | refine vc_condF rfl ?_)
  refine vc_cond rfl (fun _ => ?_) (fun hf => absurd hf (by simp; omega))
  repeat (first | refine xp ?_ | refine xs ?_ | refine xR ?_ | refine xa ?_ | refine xw ?_ | refine xn ?_ | refine xb ?_ | refine xq ?_ | refine vc_seq ?_ | refine vc_skip ?_ | refine xr ?_ | refine xd ?_ | refine vc_block ?_ | refine vc_exit ?_ | refine vc_condT rfl ?_ | refine vc_condF rfl ?_)
  refine ri rfl rfl rfl rfl rfl rfl rfl (by omega) (idx_map h) ?_
  repeat (first | refine xp ?_ | refine xs ?_ | refine xR ?_ | refine xa ?_ | refine xw ?_ | refine xn ?_ | refine xb ?_ | refine xq ?_ | refine vc_seq ?_ | refine vc_skip ?_ | refine xr ?_ | refine xd ?_ | refine vc_block ?_ | refine vc_exit ?_ | refine vc_condT rfl ?_ | refine vc_condF rfl ?_)
  refine vc_cond rfl (fun hf => absurd hf (by rw [i64_wrap (by omega) (by omega)]; simp; omega)) (fun _ => ?_)
  repeat (first | refine xp ?_ | refine xs ?_ | refine xR ?_ | refine xa ?_ | refine xw ?_ | refine xn ?_ | refine xb ?_ | refine xq ?_ | refine vc_seq ?_ | refine vc_skip ?_ | refine xr ?_ | refine xd ?_ | refine vc_block ?_ | refine vc_exit ?_ | refine vc_condT rfl ?_ | refine vc_condF rfl ?_)
  refine vcl_go ih 0 rfl (Nat.zero_le _) (Nat.le_refl _) rfl rfl ⟨.f rfl, .f2 rfl (by rw [i64_wrap (by omega) (by omega)]; simp), .f rfl, .f rfl, .f2 rfl (by rw [i64_wrap (by omega) (by omega)]; simp), trivial⟩
 case done =>
  refine vcl_unroll ?_
  repeat (first | refine xp ?_ | refine xs ?_ | refine xR ?_ | refine xa ?_ | refine xw ?_ | refine xn ?_ | refine xb ?_ | refine xq ?_ | refine vc_seq ?_ | refine vc_skip ?_ | refine xr ?_ | refine xd ?_ | refine vc_block ?_ | refine vc_exit ?_ | refine vc_condT rfl ?_ | refine vc_condF rfl ?_)
  refine vc_cond rfl (fun ht => absurd ht (by simp)) (fun _ => ?_)
  repeat (first | refine xp ?_ | refine xs ?_ | refine xR ?_ | refine xa ?_ | refine xw ?_ | refine xn ?_ | refine xb ?_ | refine xq ?_ | refine vc_seq ?_ | refine vc_skip ?_ | refine xr ?_ | refine xd ?_ | refine vc_block ?_ | refine vc_exit ?_ | refine vc_condT rfl ?_ | refine vc_condF rfl ?_)
  refine rg [] rfl rfl rfl rfl rfl .nil rfl rfl (.cons (.look .d) (.cons (.look .d) .nil)) (growGrant_ok _ hn) rfl rfl rfl rfl ?_
  repeat (first | refine xp ?_ | refine xs ?_ | refine xR ?_ | refine xa ?_ | refine xw ?_ | refine xn ?_ | refine xb ?_ | refine xq ?_ | refine vc_seq ?_ | refine vc_skip ?_ | refine xr ?_ | refine xd ?_ | refine vc_block ?_ | refine vc_exit ?_ | refine vc_condT rfl ?_ | refine vc_condF rfl ?_)
  refine vc_loop ?_
  refine vcl_keep [(6, _), (25, _), (26, _), (27, _)] 1 ⟨.f rfl, .f rfl, .f rfl, .f rfl, trivial⟩ rfl (Nat.zero_le _) (Nat.le_refl _) rfl rfl ?_
  refine vcl_list ls (fun pre => envOf [(6, .osl 0 pre.flatten.length), (25, .d (.list 1 (ls.map (.list 5)))), (26, .d (I (ls.map (D.list 5)).length)), (27, .d (I pre.length))]) (fun pre => [.arr 59 5 pre.flatten]) ?step2 ?done2
  case step2 =>
   intro pre x post h ih
   have hlt := lt_len h
   have hfl : pre.flatten.length + x.length ≤ ls.flatten.length := by subst h; simp <;> omega
   refine vcl_unroll ?_
   repeat (first | refine xp ?_ | refine xs ?_ | refine xR ?_ | refine xa ?_ | refine xw ?_ | refine xn ?_ | refine xb ?_ | refine xq ?_ | refine vc_seq ?_ | refine vc_skip ?_ | refine xr ?_ | refine xd ?_ | refine vc_block ?_ | refine vc_exit ?_ | refine vc_condT rfl ?_ | refine vc_condF rfl ?_)
   refine vc_cond rfl (fun _ => ?_) (fun hf => absurd hf (by simp; omega))
   repeat (first | refine xp ?_ | refine xs ?_ | refine xR ?_ | refine xa ?_ | refine xw ?_ | refine xn ?_ | refine xb ?_ | refine xq ?_ | refine vc_seq ?_ | refine vc_skip ?_ | refine xr ?_ | refine xd ?_ | refine vc_block ?_ | refine vc_exit ?_ | refine vc_condT rfl ?_ | refine vc_condF rfl ?_)
   refine ri rfl rfl rfl rfl rfl rfl rfl (by omega) (idx_map h) ?_
   repeat (first | refine xp ?_ | refine xs ?_ | refine xR ?_ | refine xa ?_ | refine xw ?_ | refine xn ?_ | refine xb ?_ | refine xq ?_ | refine vc_seq ?_ | refine vc_skip ?_ | refine xr ?_ | refine xd ?_ | refine vc_block ?_ | refine vc_exit ?_ | refine vc_condT rfl ?_ | refine vc_condF rfl ?_)
   refine rap rfl rfl rfl rfl rfl rfl rfl rfl .list rfl rfl rfl rfl rfl (by show _ * 40 ≤ _; omega) (by omega) ?_
   repeat (first | refine xp ?_ | refine xs ?_ | refine xR ?_ | refine xa ?_ | refine xw ?_ | refine xn ?_ | refine xb ?_ | refine xq ?_ | refine vc_seq ?_ | refine vc_skip ?_ | refine xr ?_ | refine xd ?_ | refine vc_block ?_ | refine vc_exit ?_ | refine vc_condT rfl ?_ | refine vc_condF rfl ?_)
   refine vcl_go ih 1 (by simp) (Nat.zero_le _) (by simp) rfl rfl ⟨.f2 rfl (osl_congr (by simp)), .f rfl, .f rfl, .f2 rfl (by rw [i64_wrap (by omega) (by omega)]; simp), trivial⟩
  case done2 =>
   refine vcl_unroll ?_
   repeat (first | refine xp ?_ | refine xs ?_ | refine xR ?_ | refine xa ?_ | refine xw ?_ | refine xn ?_ | refine xb ?_ | refine xq ?_ | refine vc_seq ?_ | refine vc_skip ?_ | refine xr ?_ | refine xd ?_ | refine vc_block ?_ | refine vc_exit ?_ | refine vc_condT rfl ?_ | refine vc_condF rfl ?_)
   refine vc_cond rfl (fun ht => absurd ht (by simp)) (fun _ => ?_)
   repeat (first | refine xp ?_ | refine xs ?_ | refine xR ?_ | refine xa ?_ | refine xw ?_ | refine xn ?_ | refine xb ?_ | refine xq ?_ | refine vc_seq ?_ | refine vc_skip ?_ | refine xr ?_ | refine xd ?_ | refine vc_block ?_ | refine vc_exit ?_ | refine vc_condT rfl ?_ | refine vc_condF rfl ?_)
   refine vc_ret ⟨.inr rfl, [0], _, ⟨rfl, by decide, rfl, rfl, .cons rfl .nil, rfl, .f rfl⟩⟩
theorem growUse_ok (n : Nat) (hn : n ≤ 4000000) : GCalls Tryz.prog 149 [.d (.lit (.slice none 0 0)), .d (I n)] [] (.osl 0 0) [.arr 61 4 []] := by
 refine gcalls_of_vc tabOk 27 Tryz.func149 rfl (by kernel_rfl) rfl rfl ?_
 repeat (first | refine xp ?_ | refine xs ?_ | refine xR ?_ | refine xa ?_ | refine xw ?_ | refine xn ?_ | refine xb ?_ | refine xq ?_ | refine vc_seq ?_ | refine vc_skip ?_ | refine xr ?_ | refine xd ?_ | refine vc_block ?_ | refine vc_exit ?_ | refine vc_condT rfl ?_ | refine vc_condF rfl ?_)
 refine rcap rfl rfl rfl rfl rfl rfl rfl rfl rfl ?_
 repeat (first | refine xp ?_ | refine xs ?_ | refine xR ?_ | refine xa ?_ | refine xw ?_ | refine xn ?_ | refine xq ?_ | refine vc_seq ?_ | refine vc_skip ?_ | refine xr ?_ | refine xd ?_ | refine vc_block ?_ | refine vc_exit ?_ | refine vc_condT rfl ?_ | refine vc_condF rfl ?_)
 refine vc_cond rfl (fun hc => ?_) (fun hc => ?_)
 ·refine vc_keep [(0, .d (.lit (.slice none 0 0))), (1, .d (I n))] 0 ⟨.f rfl, .f2 rfl (by rw [wrap_nat hn]), trivial⟩ rfl (Nat.le_refl _) (Nat.le_refl _) rfl rfl ?_
  repeat (first | refine xp ?_ | refine xs ?_ | refine xR ?_ | refine xa ?_ | refine xw ?_ | refine xn ?_ | refine xq ?_ | refine vc_seq ?_ | refine vc_skip ?_ | refine xr ?_ | refine xd ?_ | refine vc_block ?_ | refine vc_exit ?_ | refine vc_condT rfl ?_ | refine vc_condF rfl ?_)
  refine rcap rfl rfl rfl rfl rfl rfl rfl rfl rfl ?_
  refine rsn0 rfl rfl rfl rfl rfl rfl rfl rfl ?_
  repeat (first | refine xp ?_ | refine xs ?_ | refine xR ?_ | refine xa ?_ | refine xw ?_ | refine xn ?_ | refine xq ?_ | refine vc_seq ?_ | refine vc_skip ?_ | refine xr ?_ | refine xd ?_ | refine vc_block ?_ | refine vc_exit ?_ | refine vc_condT rfl ?_ | refine vc_condF rfl ?_)
  refine rz rfl rfl rfl rfl rfl rfl rfl rfl rfl rfl rfl rfl rfl (by rw [wrap_nat hn] at hc; simp at hc; omega) (by show _ * 32 ≤ _; omega) (by omega) ?_
  repeat (first | refine xp ?_ | refine xs ?_ | refine xR ?_ | refine xa ?_ | refine xw ?_ | refine xn ?_ | refine xq ?_ | refine vc_seq ?_ | refine vc_skip ?_ | refine xr ?_ | refine xd ?_ | refine vc_block ?_ | refine vc_exit ?_ | refine vc_condT rfl ?_ | refine vc_condF rfl ?_)
  refine rtr rfl rfl rfl rfl rfl rfl rfl rfl (by simp) (by omega) (by omega) rfl ?_
  repeat (first | refine xp ?_ | refine xs ?_ | refine xR ?_ | refine xa ?_ | refine xw ?_ | refine xn ?_ | refine xq ?_ | refine vc_seq ?_ | refine vc_skip ?_ | refine xr ?_ | refine xd ?_ | refine vc_block ?_ | refine vc_exit ?_ | refine vc_condT rfl ?_ | refine vc_condF rfl ?_)
  refine vc_ret ⟨.inr rfl, [1], _, ⟨rfl, by decide, rfl, rfl, .cons rfl .nil, rfl, .f rfl⟩⟩
 ·repeat (first | refine xp ?_ | refine xs ?_ | refine xR ?_ | refine xa ?_ | refine xw ?_ | refine xn ?_ | refine xq ?_ | refine vc_seq ?_ | refine vc_skip ?_ | refine xr ?_ | refine xd ?_ | refine vc_block ?_ | refine vc_exit ?_ | refine vc_condT rfl ?_ | refine vc_condF rfl ?_)
  refine VC.weak (weak_ownNil 4 61 4 rfl rfl) ?_
  refine vc_ret ⟨.inr rfl, [0], _, ⟨rfl, by decide, rfl, rfl, .cons rfl .nil, rfl, .f rfl⟩⟩
theorem concatUse_ok (ls : List (List D)) (hn : ls.flatten.length ≤ 4000000) (hk : ls.length ≤ 4000000) : GCalls Tryz.prog 140 [.d (.list 1 (ls.map (.list 4)))] [] (.osl 0 ls.flatten.length) [.arr 61 4 ls.flatten] := by
 refine gcalls_of_vc tabOk 36 Tryz.func140 rfl (by kernel_rfl) rfl rfl ?_
 repeat (first | refine xp ?_ | refine xs ?_ | refine xR ?_ | refine xa ?_ | refine xw ?_ | refine xn ?_ | refine xb ?_ | refine xq ?_ | refine vc_seq ?_ | refine vc_skip ?_ | refine xr ?_ | refine xd ?_ | refine vc_block ?_ | refine vc_exit ?_ | refine vc_condT rfl ?_ | refine vc_condF rfl ?_)
 refine vc_loop ?_
 refine vcl_keep [(0, _), (3, _), (9, _), (10, _), (11, _)] 0 ⟨.f rfl, .f rfl, .f rfl, .f rfl, .f rfl, trivial⟩ rfl (Nat.zero_le _) (Nat.le_refl _) rfl rfl ?_
 refine vcl_list ls (fun pre => envOf [(0, .d (.list 1 (ls.map (.list 4)))), (3, .d (I pre.flatten.length)), (9, .d (.list 1 (ls.map (.list 4)))), (10, .d (I (ls.map (D.list 4)).length)), (11, .d (I pre.length))]) (fun pre => []) ?step ?done
 case step =>
  intro pre x post h ih
  have hlt := lt_len h
  have hfl : pre.flatten.length + x.length ≤ ls.flatten.length := by subst h; simp <;> omega
  refine vcl_unroll ?_
  repeat (first | refine xp ?_ | refine xs ?_ | refine xR ?_ | refine xa ?_ | refine xw ?_ | refine xn ?_ | refine xb ?_ | refine xq ?_ | refine vc_seq ?_ | refine vc_skip ?_ | refine xr ?_ | refine xd ?_ | refine vc_block ?_ | refine vc_exit ?_ | refine vc_condT rfl ?_ | refine vc_condF rfl ?_)
  refine vc_cond rfl (fun _ => ?_) (fun hf => absurd hf (by simp; omega))
  repeat (first | refine xp ?_ | refine xs ?_ | refine xR ?_ | refine xa ?_ | refine xw ?_ | refine xn ?_ | refine xb ?_ | refine xq ?_ | refine vc_seq ?_ | refine vc_skip ?_ | refine xr ?_ | refine xd ?_ | refine vc_block ?_ | refine vc_exit ?_ | refine vc_condT rfl ?_ | refine vc_condF rfl ?_)
  refine ri rfl rfl rfl rfl rfl rfl rfl (by omega) (idx_map h) ?_
  repeat (first | refine xp ?_ | refine xs ?_ | refine xR ?_ | refine xa ?_ | refine xw ?_ | refine xn ?_ | refine xb ?_ | refine xq ?_ | refine vc_seq ?_ | refine vc_skip ?_ | refine xr ?_ | refine xd ?_ | refine vc_block ?_ | refine vc_exit ?_ | refine vc_condT rfl ?_ | refine vc_condF rfl ?_)
  refine vc_cond rfl (fun hf => absurd hf (by rw [i64_wrap (by omega) (by omega)]; simp; omega)) (fun _ => ?_)
  repeat (first | refine xp ?_ | refine xs ?_ | refine xR ?_ | refine xa ?_ | refine xw ?_ | refine xn ?_ | refine xb ?_ | refine xq ?_ | refine vc_seq ?_ | refine vc_skip ?_ | refine xr ?_ | refine xd ?_ | refine vc_block ?_ | refine vc_exit ?_ | refine vc_condT rfl ?_ | refine vc_condF rfl ?_)
  refine vcl_go ih 0 rfl (Nat.zero_le _) (Nat.le_refl _) rfl rfl ⟨.f rfl, .f2 rfl (by rw [i64_wrap (by omega) (by omega)]; simp), .f rfl, .f rfl, .f2 rfl (by rw [i64_wrap (by omega) (by omega)]; simp), trivial⟩
 case done =>
  refine vcl_unroll ?_
  repeat (first | refine xp ?_ | refine xs ?_ | refine xR ?_ | refine xa ?_ | refine xw ?_ | refine xn ?_ | refine xb ?_ | refine xq ?_ | refine vc_seq ?_ | refine vc_skip ?_ | refine xr ?_ | refine xd ?_ | refine vc_block ?_ | refine vc_exit ?_ | refine vc_condT rfl ?_ | refine vc_condF rfl ?_)
  refine vc_cond rfl (fun ht => absurd ht (by simp)) (fun _ => ?_)
  repeat (first | refine xp ?_ | refine xs ?_ | refine xR ?_ | refine xa ?_ | refine xw ?_ | refine xn ?_ | refine xb ?_ | refine xq ?_ | refine vc_seq ?_ | refine vc_skip ?_ | refine xr ?_ | refine xd ?_ | refine vc_block ?_ | refine vc_exit ?_ | refine vc_condT rfl ?_ | refine vc_condF rfl ?_)
  refine rg [] rfl rfl rfl rfl rfl .nil rfl rfl (.cons (.look .d) (.cons (.look .d) .nil)) (growUse_ok _ hn) rfl rfl rfl rfl ?_
  repeat (first | refine xp ?_ | refine xs ?_ | refine xR ?_ | refine xa ?_ | refine xw ?_ | refine xn ?_ | refine xb ?_ | refine xq ?_ | refine vc_seq ?_ | refine vc_skip ?_ | refine xr ?_ | refine xd ?_ | refine vc_block ?_ | refine vc_exit ?_ | refine vc_condT rfl ?_ | refine vc_condF rfl ?_)
  refine vc_loop ?_
  refine vcl_keep [(6, _), (25, _), (26, _), (27, _)] 1 ⟨.f rfl, .f rfl, .f rfl, .f rfl, trivial⟩ rfl (Nat.zero_le _) (Nat.le_refl _) rfl rfl ?_
  refine vcl_list ls (fun pre => envOf [(6, .osl 0 pre.flatten.length), (25, .d (.list 1 (ls.map (.list 4)))), (26, .d (I (ls.map (D.list 4)).length)), (27, .d (I pre.length))]) (fun pre => [.arr 61 4 pre.flatten]) ?step2 ?done2
  case step2 =>
   intro pre x post h ih
   have hlt := lt_len h
   have hfl : pre.flatten.length + x.length ≤ ls.flatten.length := by subst h; simp <;> omega
   refine vcl_unroll ?_
   repeat (first | refine xp ?_ | refine xs ?_ | refine xR ?_ | refine xa ?_ | refine xw ?_ | refine xn ?_ | refine xb ?_ | refine xq ?_ | refine vc_seq ?_ | refine vc_skip ?_ | refine xr ?_ | refine xd ?_ | refine vc_block ?_ | refine vc_exit ?_ | refine vc_condT rfl ?_ | refine vc_condF rfl ?_)
   refine vc_cond rfl (fun _ => ?_) (fun hf => absurd hf (by simp; omega))
   repeat (first | refine xp ?_ | refine xs ?_ | refine xR ?_ | refine xa ?_ | refine xw ?_ | refine xn ?_ | refine xb ?_ | refine xq ?_ | refine vc_seq ?_ | refine vc_skip ?_ | refine xr ?_ | refine xd ?_ | refine vc_block ?_ | refine vc_exit ?_ | refine vc_condT rfl ?_ | refine vc_condF rfl ?_)
   refine ri rfl rfl rfl rfl rfl rfl rfl (by omega) (idx_map h) ?_
   repeat (first | refine xp ?_ | refine xs ?_ | refine xR ?_ | refine xa ?_ | refine xw ?_ | refine xn ?_ | refine xb ?_ | refine xq ?_ | refine vc_seq ?_ | refine vc_skip ?_ | refine xr ?_ | refine xd ?_ | refine vc_block ?_ | refine vc_exit ?_ | refine vc_condT rfl ?_ | refine vc_condF rfl ?_)
   refine rap rfl rfl rfl rfl rfl rfl rfl rfl .list rfl rfl rfl rfl rfl (by show _ * 32 ≤ _; omega) (by omega) ?_
   repeat (first | refine xp ?_ | refine xs ?_ | refine xR ?_ | refine xa ?_ | refine xw ?_ | refine xn ?_ | refine xb ?_ | refine xq ?_ | refine vc_seq ?_ | refine vc_skip ?_ | refine xr ?_ | refine xd ?_ | refine vc_block ?_ | refine vc_exit ?_ | refine vc_condT rfl ?_ | refine vc_condF rfl ?_)
   refine vcl_go ih 1 (by simp) (Nat.zero_le _) (by simp) rfl rfl ⟨.f2 rfl (osl_congr (by simp)), .f rfl, .f rfl, .f2 rfl (by rw [i64_wrap (by omega) (by omega)]; simp), trivial⟩
  case done2 =>
   refine vcl_unroll ?_
   repeat (first | refine xp ?_ | refine xs ?_ | refine xR ?_ | refine xa ?_ | refine xw ?_ | refine xn ?_ | refine xb ?_ | refine xq ?_ | refine vc_seq ?_ | refine vc_skip ?_ | refine xr ?_ | refine xd ?_ | refine vc_block ?_ | refine vc_exit ?_ | refine vc_condT rfl ?_ | refine vc_condF rfl ?_)
   refine vc_cond rfl (fun ht => absurd ht (by simp)) (fun _ => ?_)
   repeat (first | refine xp ?_ | refine xs ?_ | refine xR ?_ | refine xa ?_ | refine xw ?_ | refine xn ?_ | refine xb ?_ | refine xq ?_ | refine vc_seq ?_ | refine vc_skip ?_ | refine xr ?_ | refine xd ?_ | refine vc_block ?_ | refine vc_exit ?_ | refine vc_condT rfl ?_ | refine vc_condF rfl ?_)
   refine vc_ret ⟨.inr rfl, [0], _, ⟨rfl, by decide, rfl, rfl, .cons rfl .nil, rfl, .f rfl⟩⟩
end Go.VM.Tryz
namespace Go.VM.Tryz
open Go.Proofs
theorem flatUses : ∀ (l : List Use), D.flatL (l.map encUse) = true
 | [] => rfl
 | _ :: l => by simp only [List.map_cons, D.flatL, flatUses l]; rfl
theorem arrFlatUse (l : List Use) : [Obj.arr 61 4 (l.map encUse)].all Obj.flat = true := by simp [Obj.flat, flatUses]
theorem flatGrants : ∀ (l : List Grant), D.flatL (l.map encGrant) = true
 | [] => rfl
 | _ :: l => by simp only [List.map_cons, D.flatL, flatGrants l]; rfl
theorem arrFlatGrant (l : List Grant) : [Obj.arr 59 5 (l.map encGrant)].all Obj.flat = true := by simp [Obj.flat, flatGrants]
theorem arrFlatGrant' (l : List Grant) : [Obj.dead, Obj.arr 59 5 (l.map encGrant)].all Obj.flat = true := by simp [Obj.flat, flatGrants]
theorem flatAsks : ∀ (l : List Ask), D.flatL (l.map encAsk) = true
 | [] => rfl
 | _ :: l => by simp only [List.map_cons, D.flatL, flatAsks l]; rfl
theorem arrFlatAsk (l : List Ask) : [Obj.arr 63 3 (l.map encAsk)].all Obj.flat = true := by simp [Obj.flat, flatAsks]
theorem arrFlatAsk' (l : List Ask) : [Obj.dead, Obj.arr 63 3 (l.map encAsk)].all Obj.flat = true := by simp [Obj.flat, flatAsks]
theorem withoutGrant1_ok {g : FuncId} {caps : List D} (x : Grant) (b : Bool) (hp : PCalls Tryz.prog g (encGrant x :: caps) (B b)) :
  PCalls Tryz.prog 132 [encGrant x, .ptr [.fn (.func g) [] caps], .ptr [.fn (.func 95) [] []]] (B b) := by
 refine xe 10 Tryz.func132 ?_
 repeat (first | refine xp ?_ | refine xs ?_ | refine xR ?_ | refine xa ?_ | refine xw ?_ | refine xn ?_ | refine xb ?_ | refine xq ?_ | refine vc_seq ?_ | refine vc_skip ?_ | refine xr ?_ | refine xd ?_ | refine vc_block ?_ | refine vc_exit ?_ | refine vc_condT rfl ?_ | refine vc_condF rfl ?_)
 refine xc (toGrant_ok x) ?_
 repeat (first | refine xp ?_ | refine xs ?_ | refine xR ?_ | refine xa ?_ | refine xw ?_ | refine xn ?_ | refine xb ?_ | refine xq ?_ | refine vc_seq ?_ | refine vc_skip ?_ | refine xr ?_ | refine xd ?_ | refine vc_block ?_ | refine vc_exit ?_ | refine vc_condT rfl ?_ | refine vc_condF rfl ?_)
 refine xc (hp) ?_
 repeat (first | refine xp ?_ | refine xs ?_ | refine xR ?_ | refine xa ?_ | refine xw ?_ | refine xn ?_ | refine xb ?_ | refine xq ?_ | refine vc_seq ?_ | refine vc_skip ?_ | refine xr ?_ | refine xd ?_ | refine vc_block ?_ | refine vc_exit ?_ | refine vc_condT rfl ?_ | refine vc_condF rfl ?_)
 refine vc_ret ⟨.inr rfl, _, .cons rfl ⟨_, .d, .refl⟩ .nil, ?_⟩
 rfl
theorem withoutGrant_ok {g : FuncId} {caps : List D} (l : List Grant) (p : Grant → Bool) (hp : ∀ a ∈ l, PCalls Tryz.prog g (encGrant a :: caps) (B (p a))) (hl : l.length ≤ 4000000) :
  FCalls Tryz.prog 94 [.list 5 (l.map encGrant), .fn (.func 95) [] [], .fn (.func g) [] caps] (.list 5 ((l.filter fun a => !p a).map encGrant)) := by
 refine .of_g (r := .osl 0 (l.filter fun a => !p a).length) (σ' := [.arr 59 5 ((l.filter fun a => !p a).map encGrant)]) ?_ (.osl rfl (by simp) (flatGrants _))
 refine gcalls_of_vc tabOk 11 Tryz.func94 rfl (by kernel_rfl) rfl rfl ?_
 repeat (first | refine xp ?_ | refine xs ?_ | refine xR ?_ | refine xa ?_ | refine xw ?_ | refine xn ?_ | refine xb ?_ | refine xq ?_ | refine vc_seq ?_ | refine vc_skip ?_ | refine xr ?_ | refine xd ?_ | refine vc_block ?_ | refine vc_exit ?_ | refine vc_condT rfl ?_ | refine vc_condF rfl ?_)
 refine rg [] rfl rfl rfl rfl rfl .nil rfl rfl (.cons (.look .d) .nil) (cloneGrant_ok _ (by simpa using hl)) (arrFlatGrant _) rfl rfl rfl ?_
 repeat (first | refine xp ?_ | refine xs ?_ | refine xR ?_ | refine xa ?_ | refine xw ?_ | refine xn ?_ | refine xb ?_ | refine xq ?_ | refine vc_seq ?_ | refine vc_skip ?_ | refine xr ?_ | refine xd ?_ | refine vc_block ?_ | refine vc_exit ?_ | refine vc_condT rfl ?_ | refine vc_condF rfl ?_)
 refine rg [2] rfl rfl rfl rfl rfl (by decide) rfl rfl (.cons (.hnd (a := .osl 0 l.length) (osl_congr (by simp)) rfl) (.cons (.look (.fn' .nil (.cons (.own' rfl (.cons .d .nil)) (.cons (.own' rfl (.cons .d .nil)) .nil)))) .nil)) (deleteGrant_ok l p (fun a ha => withoutGrant1_ok a _ (hp a ha)) hl) (arrFlatGrant' _) rfl rfl rfl ?_
 repeat (first | refine xp ?_ | refine xs ?_ | refine xR ?_ | refine xa ?_ | refine xw ?_ | refine xn ?_ | refine xb ?_ | refine xq ?_ | refine vc_seq ?_ | refine vc_skip ?_ | refine xr ?_ | refine xd ?_ | refine vc_block ?_ | refine vc_exit ?_ | refine vc_condT rfl ?_ | refine vc_condF rfl ?_)
 refine vc_ret ⟨.inr rfl, [3], _, ⟨rfl, by decide, rfl, rfl, .cons rfl .nil, rfl, .f rfl⟩⟩
theorem withoutAsk1_ok {g : FuncId} {caps : List D} (x : Ask) (b : Bool) (hp : PCalls Tryz.prog g (encAsk x :: caps) (B b)) :
  PCalls Tryz.prog 148 [encAsk x, .ptr [.fn (.func g) [] caps], .ptr [.fn (.func 118) [] []]] (B b) := by
 refine xe 10 Tryz.func148 ?_
 repeat (first | refine xp ?_ | refine xs ?_ | refine xR ?_ | refine xa ?_ | refine xw ?_ | refine xn ?_ | refine xb ?_ | refine xq ?_ | refine vc_seq ?_ | refine vc_skip ?_ | refine xr ?_ | refine xd ?_ | refine vc_block ?_ | refine vc_exit ?_ | refine vc_condT rfl ?_ | refine vc_condF rfl ?_)
 refine xc (toAsk_ok x) ?_
 repeat (first | refine xp ?_ | refine xs ?_ | refine xR ?_ | refine xa ?_ | refine xw ?_ | refine xn ?_ | refine xb ?_ | refine xq ?_ | refine vc_seq ?_ | refine vc_skip ?_ | refine xr ?_ | refine xd ?_ | refine vc_block ?_ | refine vc_exit ?_ | refine vc_condT rfl ?_ | refine vc_condF rfl ?_)
 refine xc (hp) ?_
 repeat (first | refine xp ?_ | refine xs ?_ | refine xR ?_ | refine xa ?_ | refine xw ?_ | refine xn ?_ | refine xb ?_ | refine xq ?_ | refine vc_seq ?_ | refine vc_skip ?_ | refine xr ?_ | refine xd ?_ | refine vc_block ?_ | refine vc_exit ?_ | refine vc_condT rfl ?_ | refine vc_condF rfl ?_)
 refine vc_ret ⟨.inr rfl, _, .cons rfl ⟨_, .d, .refl⟩ .nil, ?_⟩
 rfl
theorem withoutAsk_ok {g : FuncId} {caps : List D} (l : List Ask) (p : Ask → Bool) (hp : ∀ a ∈ l, PCalls Tryz.prog g (encAsk a :: caps) (B (p a))) (hl : l.length ≤ 4000000) :
  FCalls Tryz.prog 137 [.list 3 (l.map encAsk), .fn (.func 118) [] [], .fn (.func g) [] caps] (.list 3 ((l.filter fun a => !p a).map encAsk)) := by
 refine .of_g (r := .osl 0 (l.filter fun a => !p a).length) (σ' := [.arr 63 3 ((l.filter fun a => !p a).map encAsk)]) ?_ (.osl rfl (by simp) (flatAsks _))
 refine gcalls_of_vc tabOk 11 Tryz.func137 rfl (by kernel_rfl) rfl rfl ?_
 repeat (first | refine xp ?_ | refine xs ?_ | refine xR ?_ | refine xa ?_ | refine xw ?_ | refine xn ?_ | refine xb ?_ | refine xq ?_ | refine vc_seq ?_ | refine vc_skip ?_ | refine xr ?_ | refine xd ?_ | refine vc_block ?_ | refine vc_exit ?_ | refine vc_condT rfl ?_ | refine vc_condF rfl ?_)
 refine rg [] rfl rfl rfl rfl rfl .nil rfl rfl (.cons (.look .d) .nil) (cloneAsk_ok _ (by simpa using hl)) (arrFlatAsk _) rfl rfl rfl ?_
 repeat (first | refine xp ?_ | refine xs ?_ | refine xR ?_ | refine xa ?_ | refine xw ?_ | refine xn ?_ | refine xb ?_ | refine xq ?_ | refine vc_seq ?_ | refine vc_skip ?_ | refine xr ?_ | refine xd ?_ | refine vc_block ?_ | refine vc_exit ?_ | refine vc_condT rfl ?_ | refine vc_condF rfl ?_)
 refine rg [2] rfl rfl rfl rfl rfl (by decide) rfl rfl (.cons (.hnd (a := .osl 0 l.length) (osl_congr (by simp)) rfl) (.cons (.look (.fn' .nil (.cons (.own' rfl (.cons .d .nil)) (.cons (.own' rfl (.cons .d .nil)) .nil)))) .nil)) (deleteAsk_ok l p (fun a ha => withoutAsk1_ok a _ (hp a ha)) hl) (arrFlatAsk' _) rfl rfl rfl ?_
 repeat (first | refine xp ?_ | refine xs ?_ | refine xR ?_ | refine xa ?_ | refine xw ?_ | refine xn ?_ | refine xb ?_ | refine xq ?_ | refine vc_seq ?_ | refine vc_skip ?_ | refine xr ?_ | refine xd ?_ | refine vc_block ?_ | refine vc_exit ?_ | refine vc_condT rfl ?_ | refine vc_condF rfl ?_)
 refine vc_ret ⟨.inr rfl, [3], _, ⟨rfl, by decide, rfl, rfl, .cons rfl .nil, rfl, .f rfl⟩⟩
theorem expire1_ok (g : Grant) (frame : Int) : PCalls Tryz.prog 96 [encGrant g, .ptr [I frame]] (B (decide (g.til < frame))) := by
 refine xe 8 Tryz.func96 ?_
 repeat (first | refine xp ?_ | refine xs ?_ | refine xR ?_ | refine xa ?_ | refine xw ?_ | refine xn ?_ | refine xb ?_ | refine xq ?_ | refine vc_seq ?_ | refine vc_skip ?_ | refine xr ?_ | refine xd ?_ | refine vc_block ?_ | refine vc_exit ?_ | refine vc_condT rfl ?_ | refine vc_condF rfl ?_)
 refine vc_ret ⟨.inr rfl, _, .cons rfl ⟨_, .d, .refl⟩ .nil, ?_⟩
 rfl
theorem unasked1_ok (a : Ask) (slot : Int) : PCalls Tryz.prog 138 [encAsk a, .ptr [I slot]] (B (a.cell.slot == slot)) := by
 refine xe 9 Tryz.func138 ?_
 repeat (first | refine xp ?_ | refine xs ?_ | refine xR ?_ | refine xa ?_ | refine xw ?_ | refine xn ?_ | refine xb ?_ | refine xq ?_ | refine vc_seq ?_ | refine vc_skip ?_ | refine xr ?_ | refine xd ?_ | refine vc_block ?_ | refine vc_exit ?_ | refine vc_condT rfl ?_ | refine vc_condF rfl ?_)
 refine vc_ret ⟨.inr rfl, _, .cons rfl ⟨_, .d, .refl⟩ .nil, ?_⟩
 rfl
def expire (t : Table) (frame : Int) : Table := { t with grants := t.grants.filter fun g => !decide (g.til < frame) }
structure Table.ok (t : Table) : Prop where
 u : t.uses.length ≤ 4000000
 g : t.grants.length ≤ 4000000
 a : t.asks.length ≤ 4000000
theorem expire_ok (t : Table) (frame : Int) (ht : t.ok) : PCalls Tryz.prog 47 [encTable t, I frame] (encTable (expire t frame)) := by
 refine xe 16 Tryz.func47 ?_
 repeat (first | refine xp ?_ | refine xs ?_ | refine xR ?_ | refine xa ?_ | refine xw ?_ | refine xn ?_ | refine xb ?_ | refine xq ?_ | refine vc_seq ?_ | refine vc_skip ?_ | refine xr ?_ | refine xd ?_ | refine vc_block ?_ | refine vc_exit ?_ | refine vc_condT rfl ?_ | refine vc_condF rfl ?_)
 refine xc ((cloneUse_f _ (by simpa using ht.u) (flatUses _)).p) ?_
 repeat (first | refine xp ?_ | refine xs ?_ | refine xR ?_ | refine xa ?_ | refine xw ?_ | refine xn ?_ | refine xb ?_ | refine xq ?_ | refine vc_seq ?_ | refine vc_skip ?_ | refine xr ?_ | refine xd ?_ | refine vc_block ?_ | refine vc_exit ?_ | refine vc_condT rfl ?_ | refine vc_condF rfl ?_)
 refine rcf rfl rfl rfl rfl (by exact .cons .d (.cons .d (.cons (.fn' .nil (.cons (.own' rfl (.cons .d .nil)) .nil)) .nil))) (withoutGrant_ok t.grants (fun g => decide (g.til < frame)) (fun a _ => expire1_ok a frame) ht.g) ?_
 repeat (first | refine xp ?_ | refine xs ?_ | refine xR ?_ | refine xa ?_ | refine xw ?_ | refine xn ?_ | refine xb ?_ | refine xq ?_ | refine vc_seq ?_ | refine vc_skip ?_ | refine xr ?_ | refine xd ?_ | refine vc_block ?_ | refine vc_exit ?_ | refine vc_condT rfl ?_ | refine vc_condF rfl ?_)
 refine xc ((cloneAsk_f _ (by simpa using ht.a) (flatAsks _)).p) ?_
 repeat (first | refine xp ?_ | refine xs ?_ | refine xR ?_ | refine xa ?_ | refine xw ?_ | refine xn ?_ | refine xb ?_ | refine xq ?_ | refine vc_seq ?_ | refine vc_skip ?_ | refine xr ?_ | refine xd ?_ | refine vc_block ?_ | refine vc_exit ?_ | refine vc_condT rfl ?_ | refine vc_condF rfl ?_)
 refine vc_ret ⟨.inr rfl, _, .cons rfl ⟨_, .d, .refl⟩ .nil, ?_⟩
 rfl
theorem unasked_ok (t : Table) (slot : Int) (ht : t.ok) : PCalls Tryz.prog 105 [encTable t, I slot] (encAsks (t.asks.filter fun a => !(a.cell.slot == slot))) := by
 refine xe 9 Tryz.func105 ?_
 repeat (first | refine xp ?_ | refine xs ?_ | refine xR ?_ | refine xa ?_ | refine xw ?_ | refine xn ?_ | refine xb ?_ | refine xq ?_ | refine vc_seq ?_ | refine vc_skip ?_ | refine xr ?_ | refine xd ?_ | refine vc_block ?_ | refine vc_exit ?_ | refine vc_condT rfl ?_ | refine vc_condF rfl ?_)
 refine rcf rfl rfl rfl rfl (by exact .cons .d (.cons .d (.cons (.fn' .nil (.cons (.own' rfl (.cons .d .nil)) .nil)) .nil))) (withoutAsk_ok t.asks (fun a => a.cell.slot == slot) (fun a _ => unasked1_ok a slot) ht.a) ?_
 repeat (first | refine xp ?_ | refine xs ?_ | refine xR ?_ | refine xa ?_ | refine xw ?_ | refine xn ?_ | refine xb ?_ | refine xq ?_ | refine vc_seq ?_ | refine vc_skip ?_ | refine xr ?_ | refine xd ?_ | refine vc_block ?_ | refine vc_exit ?_ | refine vc_condT rfl ?_ | refine vc_condF rfl ?_)
 refine vc_ret ⟨.inr rfl, _, .cons rfl ⟨_, .d, .refl⟩ .nil, ?_⟩
 rfl
def insBy {α : Type} (p : α → Bool) (x : α) (l : List α) : List α := l.takeWhile (fun a => !p a) ++ x :: l.dropWhile (fun a => !p a)
def place {α : Type} (p : α → Bool) (l : List α) : Nat := (l.takeWhile fun a => !p a).length
theorem place_le {α : Type} {p : α → Bool} {l : List α} : place p l ≤ l.length := (List.takeWhile_sublist _).length_le
theorem place_idx {α : Type} {p : α → Bool} {l : List α} : (idx p l < 0 → place p l = l.length) ∧ (¬ idx p l < 0 → (place p l : Int) = idx p l) := by
 induction l with
 | nil => simp [place, idx]
 | cons a l ih =>
  unfold place idx at *
  by_cases h : p a = true
  ·simp [h, List.findIdx?_cons]
  ·simp only [Bool.not_eq_true] at h
   simp only [List.findIdx?_cons, h, List.takeWhile_cons]
   cases hf : l.findIdx? p with
   | none => rw [hf] at ih; simp at ih ⊢; exact ih
   | some i => rw [hf] at ih; simp at ih ⊢; omega
theorem insBy_place {α : Type} {p : α → Bool} {x : α} {l : List α} : insBy p x l = l.take (place p l) ++ x :: l.drop (place p l) := by
 have h := List.takeWhile_append_dropWhile (p := fun a => !p a) (l := l)
 unfold insBy place
 congr 1
 ·conv => rhs; rw [← h]
  rw [h]; conv => rhs; arg 2; rw [← h]
  rw [List.take_left]
 ·congr 1
  conv => rhs; arg 2; rw [← h]
  rw [List.drop_left]
def beyondUse (x : Use) (y : Use) : Bool := decide (y.cell.slot > x.cell.slot)
theorem insertUse1_ok (x y : Use) : PCalls Tryz.prog 139 [encUse y, .ptr [.fn (.func 108) [] []], .ptr (encUse x).cells] (B (beyondUse x y)) := by
 refine xe 18 Tryz.func139 ?_
 repeat (first | refine xp ?_ | refine xs ?_ | refine xR ?_ | refine xa ?_ | refine xw ?_ | refine xn ?_ | refine xb ?_ | refine xq ?_ | refine vc_seq ?_ | refine vc_skip ?_ | refine xr ?_ | refine xd ?_ | refine vc_block ?_ | refine vc_exit ?_ | refine vc_condT rfl ?_ | refine vc_condF rfl ?_)
 refine xc (toUse_ok y) ?_
 repeat (first | refine xp ?_ | refine xs ?_ | refine xR ?_ | refine xa ?_ | refine xw ?_ | refine xn ?_ | refine xb ?_ | refine xq ?_ | refine vc_seq ?_ | refine vc_skip ?_ | refine xr ?_ | refine xd ?_ | refine vc_block ?_ | refine vc_exit ?_ | refine vc_condT rfl ?_ | refine vc_condF rfl ?_)
 refine rinv rfl rfl rfl rfl rfl rfl rfl rfl (List.mem_cons_self ..) (useCell_ok y) ?_
 repeat (first | refine xp ?_ | refine xs ?_ | refine xR ?_ | refine xa ?_ | refine xw ?_ | refine xn ?_ | refine xb ?_ | refine xq ?_ | refine vc_seq ?_ | refine vc_skip ?_ | refine xr ?_ | refine xd ?_ | refine vc_block ?_ | refine vc_exit ?_ | refine vc_condT rfl ?_ | refine vc_condF rfl ?_)
 refine xc (toUse_ok x) ?_
 repeat (first | refine xp ?_ | refine xs ?_ | refine xR ?_ | refine xa ?_ | refine xw ?_ | refine xn ?_ | refine xb ?_ | refine xq ?_ | refine vc_seq ?_ | refine vc_skip ?_ | refine xr ?_ | refine xd ?_ | refine vc_block ?_ | refine vc_exit ?_ | refine vc_condT rfl ?_ | refine vc_condF rfl ?_)
 refine rinv rfl rfl rfl rfl rfl rfl rfl rfl (List.mem_cons_self ..) (useCell_ok x) ?_
 repeat (first | refine xp ?_ | refine xs ?_ | refine xR ?_ | refine xa ?_ | refine xw ?_ | refine xn ?_ | refine xb ?_ | refine xq ?_ | refine vc_seq ?_ | refine vc_skip ?_ | refine xr ?_ | refine xd ?_ | refine vc_block ?_ | refine vc_exit ?_ | refine vc_condT rfl ?_ | refine vc_condF rfl ?_)
 refine vc_ret ⟨.inr rfl, _, .cons rfl ⟨_, .d, .refl⟩ .nil, ?_⟩
 rfl
theorem insertUse_ok (l : List Use) (x : Use) (hl : l.length ≤ 3999999) : FCalls Tryz.prog 107 [.list 4 (l.map encUse), encUse x, .fn (.func 108) [] []] (.list 4 ((insBy (beyondUse x) x l).map encUse)) := by
 have hlen : (insBy (beyondUse x) x l).length = l.length + 1 := by
  have := place_le (p := beyondUse x) (l := l)
  rw [insBy_place]; simp; omega
 refine .of_g (r := .osl 0 (insBy (beyondUse x) x l).length) (σ' := [.arr 61 4 ((insBy (beyondUse x) x l).map encUse)]) ?_ (.osl rfl (by simp) (flatUses _))
 have hpl := place_le (p := beyondUse x) (l := l)
 obtain ⟨hp1, hp2⟩ := place_idx (p := beyondUse x) (l := l)
 have hcat : [((l.map encUse).take (place (beyondUse x) l)).drop 0, [encUse x], ((l.map encUse).take (l.map encUse).length).drop (place (beyondUse x) l)].flatten = (insBy (beyondUse x) x l).map encUse := by
  rw [insBy_place, show (l.map encUse).take (l.map encUse).length = l.map encUse from List.take_of_length_le (by simp)]
  simp [List.map_take, List.map_drop]
 have hG : GCalls Tryz.prog 140 [.d (.list 1 [.list 4 (((l.map encUse).take (place (beyondUse x) l)).drop 0), .list 4 [encUse x], .list 4 (((l.map encUse).take (l.map encUse).length).drop (place (beyondUse x) l))])] [] (.osl 0 (insBy (beyondUse x) x l).length) [.arr 61 4 ((insBy (beyondUse x) x l).map encUse)] := by
  have h := concatUse_ok [((l.map encUse).take (place (beyondUse x) l)).drop 0, [encUse x], ((l.map encUse).take (l.map encUse).length).drop (place (beyondUse x) l)] (by rw [hcat]; simp; omega) (by simp)
  rw [hcat] at h
  simpa using h
 refine gcalls_of_vc tabOk 25 Tryz.func107 rfl (by kernel_rfl) rfl rfl ?_
 repeat (first | refine xp ?_ | refine xs ?_ | refine xR ?_ | refine xa ?_ | refine xw ?_ | refine xn ?_ | refine xb ?_ | refine xq ?_ | refine vc_seq ?_ | refine vc_skip ?_ | refine xr ?_ | refine xd ?_ | refine vc_block ?_ | refine vc_exit ?_ | refine vc_condT rfl ?_ | refine vc_condF rfl ?_)
 refine rcr rfl rfl rfl rfl (by exact .cons .d (.cons (.fn' .nil (.cons (.own' rfl (.cons .d .nil)) (.cons (.own' rfl (.cons .d (.cons .d (.cons .d (.cons .d .nil)))) ) .nil))) .nil)) (indexUse_ok l (beyondUse x) (fun a _ => insertUse1_ok x a) (by omega)) rfl ?_
 repeat (first | refine xp ?_ | refine xs ?_ | refine xR ?_ | refine xa ?_ | refine xw ?_ | refine xn ?_ | refine xb ?_ | refine xq ?_ | refine vc_seq ?_ | refine vc_skip ?_ | refine xr ?_ | refine xd ?_ | refine vc_block ?_ | refine vc_exit ?_ | refine vc_condT rfl ?_ | refine vc_condF rfl ?_)
 refine vc_cond rfl (fun hc => ?_) (fun hc => ?_)
 ·repeat (first | refine xp ?_ | refine xs ?_ | refine xR ?_ | refine xa ?_ | refine xw ?_ | refine xn ?_ | refine xb ?_ | refine xq ?_ | refine vc_seq ?_ | refine vc_skip ?_ | refine xr ?_ | refine vc_block ?_ | refine vc_exit ?_ | refine vc_condT rfl ?_ | refine vc_condF rfl ?_)
  refine vc_keep [(0, .d (.list 4 (l.map encUse))), (4, .own 0 0), (7, .d (I (place (beyondUse x) l)))] 1 ⟨.f rfl, .f rfl, .f2 rfl (by rw [hp1 (by simpa using hc)]; simp), trivial⟩ rfl (Nat.zero_le _) (by simp) rfl rfl ?_
  refine xd ?_
  repeat (first | refine xp ?_ | refine xs ?_ | refine xR ?_ | refine xa ?_ | refine xw ?_ | refine xn ?_ | refine xb ?_ | refine xq ?_ | refine vc_seq ?_ | refine vc_skip ?_ | refine xr ?_ | refine xd ?_ | refine vc_block ?_ | refine vc_exit ?_ | refine vc_condT rfl ?_ | refine vc_condF rfl ?_)
  refine rsl rfl rfl rfl rfl rfl rfl rfl rfl (by omega) (by omega) (by simp; omega) ?_
  repeat (first | refine xp ?_ | refine xs ?_ | refine xR ?_ | refine xa ?_ | refine xw ?_ | refine xn ?_ | refine xb ?_ | refine xq ?_ | refine vc_seq ?_ | refine vc_skip ?_ | refine xr ?_ | refine xd ?_ | refine vc_block ?_ | refine vc_exit ?_ | refine vc_condT rfl ?_ | refine vc_condF rfl ?_)
  refine rsl rfl rfl rfl rfl rfl rfl rfl rfl (by omega) (by simp; omega) (by simp) ?_
  repeat (first | refine xp ?_ | refine xs ?_ | refine xR ?_ | refine xa ?_ | refine xw ?_ | refine xn ?_ | refine xb ?_ | refine xq ?_ | refine vc_seq ?_ | refine vc_skip ?_ | refine xr ?_ | refine xd ?_ | refine vc_block ?_ | refine vc_exit ?_ | refine vc_condT rfl ?_ | refine vc_condF rfl ?_)
  refine rg [] rfl rfl rfl rfl rfl .nil rfl rfl (.cons (.look .d) .nil) hG (arrFlatUse _) rfl rfl rfl ?_
  repeat (first | refine xp ?_ | refine xs ?_ | refine xR ?_ | refine xa ?_ | refine xw ?_ | refine xn ?_ | refine xb ?_ | refine xq ?_ | refine vc_seq ?_ | refine vc_skip ?_ | refine xr ?_ | refine xd ?_ | refine vc_block ?_ | refine vc_exit ?_ | refine vc_condT rfl ?_ | refine vc_condF rfl ?_)
  refine vc_ret ⟨.inr rfl, [1], _, ⟨rfl, by decide, rfl, rfl, .cons rfl .nil, rfl, .f rfl⟩⟩
 ·repeat (first | refine xp ?_ | refine xs ?_ | refine xR ?_ | refine xa ?_ | refine xw ?_ | refine xn ?_ | refine xb ?_ | refine xq ?_ | refine vc_seq ?_ | refine vc_skip ?_ | refine xr ?_ | refine vc_block ?_ | refine vc_exit ?_ | refine vc_condT rfl ?_ | refine vc_condF rfl ?_)
  refine vc_keep [(0, .d (.list 4 (l.map encUse))), (4, .own 0 0), (7, .d (I (place (beyondUse x) l)))] 1 ⟨.f rfl, .f rfl, .f2 rfl (by rw [hp2 (by simpa using hc)]), trivial⟩ rfl (Nat.zero_le _) (by simp) rfl rfl ?_
  refine xd ?_
  repeat (first | refine xp ?_ | refine xs ?_ | refine xR ?_ | refine xa ?_ | refine xw ?_ | refine xn ?_ | refine xb ?_ | refine xq ?_ | refine vc_seq ?_ | refine vc_skip ?_ | refine xr ?_ | refine xd ?_ | refine vc_block ?_ | refine vc_exit ?_ | refine vc_condT rfl ?_ | refine vc_condF rfl ?_)
  refine rsl rfl rfl rfl rfl rfl rfl rfl rfl (by omega) (by omega) (by simp; omega) ?_
  repeat (first | refine xp ?_ | refine xs ?_ | refine xR ?_ | refine xa ?_ | refine xw ?_ | refine xn ?_ | refine xb ?_ | refine xq ?_ | refine vc_seq ?_ | refine vc_skip ?_ | refine xr ?_ | refine xd ?_ | refine vc_block ?_ | refine vc_exit ?_ | refine vc_condT rfl ?_ | refine vc_condF rfl ?_)
  refine rsl rfl rfl rfl rfl rfl rfl rfl rfl (by omega) (by simp; omega) (by simp) ?_
  repeat (first | refine xp ?_ | refine xs ?_ | refine xR ?_ | refine xa ?_ | refine xw ?_ | refine xn ?_ | refine xb ?_ | refine xq ?_ | refine vc_seq ?_ | refine vc_skip ?_ | refine xr ?_ | refine xd ?_ | refine vc_block ?_ | refine vc_exit ?_ | refine vc_condT rfl ?_ | refine vc_condF rfl ?_)
  refine rg [] rfl rfl rfl rfl rfl .nil rfl rfl (.cons (.look .d) .nil) hG (arrFlatUse _) rfl rfl rfl ?_
  repeat (first | refine xp ?_ | refine xs ?_ | refine xR ?_ | refine xa ?_ | refine xw ?_ | refine xn ?_ | refine xb ?_ | refine xq ?_ | refine vc_seq ?_ | refine vc_skip ?_ | refine xr ?_ | refine xd ?_ | refine vc_block ?_ | refine vc_exit ?_ | refine vc_condT rfl ?_ | refine vc_condF rfl ?_)
  refine vc_ret ⟨.inr rfl, [1], _, ⟨rfl, by decide, rfl, rfl, .cons rfl .nil, rfl, .f rfl⟩⟩
def beyondGrant (x : Grant) (y : Grant) : Bool := decide (y.cell.slot > x.cell.slot)
theorem insertGrant1_ok (x y : Grant) : PCalls Tryz.prog 135 [encGrant y, .ptr [.fn (.func 95) [] []], .ptr (encGrant x).cells] (B (beyondGrant x y)) := by
 refine xe 18 Tryz.func135 ?_
 repeat (first | refine xp ?_ | refine xs ?_ | refine xR ?_ | refine xa ?_ | refine xw ?_ | refine xn ?_ | refine xb ?_ | refine xq ?_ | refine vc_seq ?_ | refine vc_skip ?_ | refine xr ?_ | refine xd ?_ | refine vc_block ?_ | refine vc_exit ?_ | refine vc_condT rfl ?_ | refine vc_condF rfl ?_)
 refine xc (toGrant_ok y) ?_
 repeat (first | refine xp ?_ | refine xs ?_ | refine xR ?_ | refine xa ?_ | refine xw ?_ | refine xn ?_ | refine xb ?_ | refine xq ?_ | refine vc_seq ?_ | refine vc_skip ?_ | refine xr ?_ | refine xd ?_ | refine vc_block ?_ | refine vc_exit ?_ | refine vc_condT rfl ?_ | refine vc_condF rfl ?_)
 refine rinv rfl rfl rfl rfl rfl rfl rfl rfl (List.mem_cons_self ..) (grantCell_ok y) ?_
 repeat (first | refine xp ?_ | refine xs ?_ | refine xR ?_ | refine xa ?_ | refine xw ?_ | refine xn ?_ | refine xb ?_ | refine xq ?_ | refine vc_seq ?_ | refine vc_skip ?_ | refine xr ?_ | refine xd ?_ | refine vc_block ?_ | refine vc_exit ?_ | refine vc_condT rfl ?_ | refine vc_condF rfl ?_)
 refine xc (toGrant_ok x) ?_
 repeat (first | refine xp ?_ | refine xs ?_ | refine xR ?_ | refine xa ?_ | refine xw ?_ | refine xn ?_ | refine xb ?_ | refine xq ?_ | refine vc_seq ?_ | refine vc_skip ?_ | refine xr ?_ | refine xd ?_ | refine vc_block ?_ | refine vc_exit ?_ | refine vc_condT rfl ?_ | refine vc_condF rfl ?_)
 refine rinv rfl rfl rfl rfl rfl rfl rfl rfl (List.mem_cons_self ..) (grantCell_ok x) ?_
 repeat (first | refine xp ?_ | refine xs ?_ | refine xR ?_ | refine xa ?_ | refine xw ?_ | refine xn ?_ | refine xb ?_ | refine xq ?_ | refine vc_seq ?_ | refine vc_skip ?_ | refine xr ?_ | refine xd ?_ | refine vc_block ?_ | refine vc_exit ?_ | refine vc_condT rfl ?_ | refine vc_condF rfl ?_)
 refine vc_ret ⟨.inr rfl, _, .cons rfl ⟨_, .d, .refl⟩ .nil, ?_⟩
 rfl
theorem insertGrant_ok (l : List Grant) (x : Grant) (hl : l.length ≤ 3999999) : FCalls Tryz.prog 104 [.list 5 (l.map encGrant), encGrant x, .fn (.func 95) [] []] (.list 5 ((insBy (beyondGrant x) x l).map encGrant)) := by
 have hlen : (insBy (beyondGrant x) x l).length = l.length + 1 := by
  have := place_le (p := beyondGrant x) (l := l)
  rw [insBy_place]; simp; omega
 refine .of_g (r := .osl 0 (insBy (beyondGrant x) x l).length) (σ' := [.arr 59 5 ((insBy (beyondGrant x) x l).map encGrant)]) ?_ (.osl rfl (by simp) (flatGrants _))
 have hpl := place_le (p := beyondGrant x) (l := l)
 obtain ⟨hp1, hp2⟩ := place_idx (p := beyondGrant x) (l := l)
 have hcat : [((l.map encGrant).take (place (beyondGrant x) l)).drop 0, [encGrant x], ((l.map encGrant).take (l.map encGrant).length).drop (place (beyondGrant x) l)].flatten = (insBy (beyondGrant x) x l).map encGrant := by
  rw [insBy_place, show (l.map encGrant).take (l.map encGrant).length = l.map encGrant from List.take_of_length_le (by simp)]
  simp [List.map_take, List.map_drop]
 have hG : GCalls Tryz.prog 136 [.d (.list 1 [.list 5 (((l.map encGrant).take (place (beyondGrant x) l)).drop 0), .list 5 [encGrant x], .list 5 (((l.map encGrant).take (l.map encGrant).length).drop (place (beyondGrant x) l))])] [] (.osl 0 (insBy (beyondGrant x) x l).length) [.arr 59 5 ((insBy (beyondGrant x) x l).map encGrant)] := by
  have h := concatGrant_ok [((l.map encGrant).take (place (beyondGrant x) l)).drop 0, [encGrant x], ((l.map encGrant).take (l.map encGrant).length).drop (place (beyondGrant x) l)] (by rw [hcat]; simp; omega) (by simp)
  rw [hcat] at h
  simpa using h
 refine gcalls_of_vc tabOk 25 Tryz.func104 rfl (by kernel_rfl) rfl rfl ?_
 repeat (first | refine xp ?_ | refine xs ?_ | refine xR ?_ | refine xa ?_ | refine xw ?_ | refine xn ?_ | refine xb ?_ | refine xq ?_ | refine vc_seq ?_ | refine vc_skip ?_ | refine xr ?_ | refine xd ?_ | refine vc_block ?_ | refine vc_exit ?_ | refine vc_condT rfl ?_ | refine vc_condF rfl ?_)
 refine rcr rfl rfl rfl rfl (by exact .cons .d (.cons (.fn' .nil (.cons (.own' rfl (.cons .d .nil)) (.cons (.own' rfl (.cons .d (.cons .d (.cons .d (.cons .d (.cons .d .nil))))) ) .nil))) .nil)) (indexGrant_ok l (beyondGrant x) (fun a _ => insertGrant1_ok x a) (by omega)) rfl ?_
 repeat (first | refine xp ?_ | refine xs ?_ | refine xR ?_ | refine xa ?_ | refine xw ?_ | refine xn ?_ | refine xb ?_ | refine xq ?_ | refine vc_seq ?_ | refine vc_skip ?_ | refine xr ?_ | refine xd ?_ | refine vc_block ?_ | refine vc_exit ?_ | refine vc_condT rfl ?_ | refine vc_condF rfl ?_)
 refine vc_cond rfl (fun hc => ?_) (fun hc => ?_)
 ·repeat (first | refine xp ?_ | refine xs ?_ | refine xR ?_ | refine xa ?_ | refine xw ?_ | refine xn ?_ | refine xb ?_ | refine xq ?_ | refine vc_seq ?_ | refine vc_skip ?_ | refine xr ?_ | refine vc_block ?_ | refine vc_exit ?_ | refine vc_condT rfl ?_ | refine vc_condF rfl ?_)
  refine vc_keep [(0, .d (.list 5 (l.map encGrant))), (4, .own 0 0), (7, .d (I (place (beyondGrant x) l)))] 1 ⟨.f rfl, .f rfl, .f2 rfl (by rw [hp1 (by simpa using hc)]; simp), trivial⟩ rfl (Nat.zero_le _) (by simp) rfl rfl ?_
  refine xd ?_
  repeat (first | refine xp ?_ | refine xs ?_ | refine xR ?_ | refine xa ?_ | refine xw ?_ | refine xn ?_ | refine xb ?_ | refine xq ?_ | refine vc_seq ?_ | refine vc_skip ?_ | refine xr ?_ | refine xd ?_ | refine vc_block ?_ | refine vc_exit ?_ | refine vc_condT rfl ?_ | refine vc_condF rfl ?_)
  refine rsl rfl rfl rfl rfl rfl rfl rfl rfl (by omega) (by omega) (by simp; omega) ?_
  repeat (first | refine xp ?_ | refine xs ?_ | refine xR ?_ | refine xa ?_ | refine xw ?_ | refine xn ?_ | refine xb ?_ | refine xq ?_ | refine vc_seq ?_ | refine vc_skip ?_ | refine xr ?_ | refine xd ?_ | refine vc_block ?_ | refine vc_exit ?_ | refine vc_condT rfl ?_ | refine vc_condF rfl ?_)
  refine rsl rfl rfl rfl rfl rfl rfl rfl rfl (by omega) (by simp; omega) (by simp) ?_
  repeat (first | refine xp ?_ | refine xs ?_ | refine xR ?_ | refine xa ?_ | refine xw ?_ | refine xn ?_ | refine xb ?_ | refine xq ?_ | refine vc_seq ?_ | refine vc_skip ?_ | refine xr ?_ | refine xd ?_ | refine vc_block ?_ | refine vc_exit ?_ | refine vc_condT rfl ?_ | refine vc_condF rfl ?_)
  refine rg [] rfl rfl rfl rfl rfl .nil rfl rfl (.cons (.look .d) .nil) hG (arrFlatGrant _) rfl rfl rfl ?_
  repeat (first | refine xp ?_ | refine xs ?_ | refine xR ?_ | refine xa ?_ | refine xw ?_ | refine xn ?_ | refine xb ?_ | refine xq ?_ | refine vc_seq ?_ | refine vc_skip ?_ | refine xr ?_ | refine xd ?_ | refine vc_block ?_ | refine vc_exit ?_ | refine vc_condT rfl ?_ | refine vc_condF rfl ?_)
  refine vc_ret ⟨.inr rfl, [1], _, ⟨rfl, by decide, rfl, rfl, .cons rfl .nil, rfl, .f rfl⟩⟩
 ·repeat (first | refine xp ?_ | refine xs ?_ | refine xR ?_ | refine xa ?_ | refine xw ?_ | refine xn ?_ | refine xb ?_ | refine xq ?_ | refine vc_seq ?_ | refine vc_skip ?_ | refine xr ?_ | refine vc_block ?_ | refine vc_exit ?_ | refine vc_condT rfl ?_ | refine vc_condF rfl ?_)
  refine vc_keep [(0, .d (.list 5 (l.map encGrant))), (4, .own 0 0), (7, .d (I (place (beyondGrant x) l)))] 1 ⟨.f rfl, .f rfl, .f2 rfl (by rw [hp2 (by simpa using hc)]), trivial⟩ rfl (Nat.zero_le _) (by simp) rfl rfl ?_
  refine xd ?_
  repeat (first | refine xp ?_ | refine xs ?_ | refine xR ?_ | refine xa ?_ | refine xw ?_ | refine xn ?_ | refine xb ?_ | refine xq ?_ | refine vc_seq ?_ | refine vc_skip ?_ | refine xr ?_ | refine xd ?_ | refine vc_block ?_ | refine vc_exit ?_ | refine vc_condT rfl ?_ | refine vc_condF rfl ?_)
  refine rsl rfl rfl rfl rfl rfl rfl rfl rfl (by omega) (by omega) (by simp; omega) ?_
  repeat (first | refine xp ?_ | refine xs ?_ | refine xR ?_ | refine xa ?_ | refine xw ?_ | refine xn ?_ | refine xb ?_ | refine xq ?_ | refine vc_seq ?_ | refine vc_skip ?_ | refine xr ?_ | refine xd ?_ | refine vc_block ?_ | refine vc_exit ?_ | refine vc_condT rfl ?_ | refine vc_condF rfl ?_)
  refine rsl rfl rfl rfl rfl rfl rfl rfl rfl (by omega) (by simp; omega) (by simp) ?_
  repeat (first | refine xp ?_ | refine xs ?_ | refine xR ?_ | refine xa ?_ | refine xw ?_ | refine xn ?_ | refine xb ?_ | refine xq ?_ | refine vc_seq ?_ | refine vc_skip ?_ | refine xr ?_ | refine xd ?_ | refine vc_block ?_ | refine vc_exit ?_ | refine vc_condT rfl ?_ | refine vc_condF rfl ?_)
  refine rg [] rfl rfl rfl rfl rfl .nil rfl rfl (.cons (.look .d) .nil) hG (arrFlatGrant _) rfl rfl rfl ?_
  repeat (first | refine xp ?_ | refine xs ?_ | refine xR ?_ | refine xa ?_ | refine xw ?_ | refine xn ?_ | refine xb ?_ | refine xq ?_ | refine vc_seq ?_ | refine vc_skip ?_ | refine xr ?_ | refine xd ?_ | refine vc_block ?_ | refine vc_exit ?_ | refine vc_condT rfl ?_ | refine vc_condF rfl ?_)
  refine vc_ret ⟨.inr rfl, [1], _, ⟨rfl, by decide, rfl, rfl, .cons rfl .nil, rfl, .f rfl⟩⟩
end Go.VM.Tryz
namespace Go.VM.Tryz
open Go.Proofs
structure Rest where
 c2 : D
 c3 : D
 c4 : D
 c5 : D
 c6 : D
 c7 : D
 c8 : D
 c9 : D
 c10 : D
 c11 : D
 c15 : D
 c16 : D
 c17 : D
 c18 : D
 c19 : D
 c20 : D
 c21 : D
 c22 : D
 c23 : D
 c24 : D
 c25 : D
 c26 : D
 c27 : D
 c28 : D
 c29 : D
 c30 : D
structure Near where
 frame : Int
 src : Int
 t : Table
 r : Rest
def encNear (n : Near) : D := .agg [I n.frame, I n.src, n.r.c2, n.r.c3, n.r.c4, n.r.c5, n.r.c6, n.r.c7, n.r.c8, n.r.c9, n.r.c10, n.r.c11, encUses n.t.uses, encGrants n.t.grants, encAsks n.t.asks, n.r.c15, n.r.c16, n.r.c17, n.r.c18, n.r.c19, n.r.c20, n.r.c21, n.r.c22, n.r.c23, n.r.c24, n.r.c25, n.r.c26, n.r.c27, n.r.c28, n.r.c29, n.r.c30]
abbrev encNears (l : List Near) : D := .list 31 (l.map encNear)
structure Side where
 l : Layout
 me : Int
 near : List Near
 frame : Int
def noRest : Rest := ⟨I 0, I 0, I 0, I 0, I 0, I 0, I 0, I 0, I 0, I 0, .lit (.slice none 0 0), .lit (.bool false), .lit (.slice none 0 0), .lit (.slice none 0 0), .lit (.slice none 0 0), I 0, I 0, .lit (.int .u64 0), I 0, I 0, I 0, I 0, I 0, .lit (.slice none 0 0), .lit (.slice none 0 0), .lit (.bool false)⟩
def cellEq (a b : Cell) : Bool := a.slot == b.slot && (a.offset == b.offset && true)
def busy (t : Table) (slot : Int) : Bool := t.uses.any (fun u => u.cell.slot == slot) || t.grants.any (fun g => g.cell.slot == slot)
end Go.VM.Tryz
namespace Go.VM.Tryz
open Go.Proofs
theorem find_idx {α : Type} {p : α → Bool} {l : List α} : (idx p l < 0 → l.find? p = none) ∧ (¬ idx p l < 0 → ∃ x, l[(idx p l).toNat]? = some x ∧ l.find? p = some x) := by
 induction l with
 | nil => simp [idx]
 | cons a l ih =>
  unfold idx at *
  by_cases h : p a = true
  ·simp [h, List.findIdx?_cons]
  ·simp only [Bool.not_eq_true] at h
   simp only [List.findIdx?_cons, h, List.find?_cons]
   cases hf : l.findIdx? p with
   | none => rw [hf] at ih; simp at ih ⊢; exact ih
   | some i =>
    simp only [hf] at ih
    obtain ⟨x, h1, h2⟩ := ih.2 (by omega)
    refine ⟨fun h => by simp at h; omega, fun _ => ⟨x, by simpa using h1, h2⟩⟩
def askEq (a b : Ask) : Bool := cellEq a.cell b.cell && (a.peer == b.peer && true)
end Go.VM.Tryz
namespace Go.VM.Tryz
open Go.Proofs
abbrev IM := List (Int × Int)
def encM (m : IM) : List (Int × D) := m.map fun y => (y.1, I y.2)
def mgetI (n : Int) (m : IM) : Int := match m.findIdx? (fun y => y.1 == n) with | some j => ((m[j]?).map (·.2)).getD 0 | none => 0
def mputI (n v : Int) (m : IM) : IM := match m.findIdx? (fun y => y.1 == n) with | some j => m.set j (n, v) | none => m ++ [(n, v)]
theorem encM_find {n : Int} {m : IM} : (encM m).findIdx? (fun y => y.1 == n) = m.findIdx? (fun y => y.1 == n) := by
 unfold encM
 rw [List.findIdx?_map]; rfl
theorem mgetD_enc {n : Int} {m : IM} : mgetD n (encM m) (.lit (.int .i64 0)) = I (mgetI n m) := by
 unfold mgetD mgetI
 rw [encM_find]
 cases h : m.findIdx? (fun y => y.1 == n) with
 | none => rfl
 | some j =>
  obtain ⟨hj, _⟩ := List.findIdx?_eq_some_iff_getElem.1 h
  simp [encM, hj]
theorem mput_enc {n v : Int} {m : IM} : mput n (I v) (encM m) = encM (mputI n v m) := by
 unfold mput mputI
 rw [encM_find]
 cases h : m.findIdx? (fun y => y.1 == n) with
 | none => simp [encM]
 | some j => simp [encM, List.map_set]
def bump (n : Int) (m : IM) : IM := mputI n (IntKind.i64.wrap (mgetI n m + 1)) m
def snd {α : Type} (v : α → Bool) (sl : α → Int) : Int → List α → IM → Bool × IM
 | _, [], m => (true, m)
 | last, x :: l, m => if v x && !(decide (sl x ≤ last)) then snd v sl (sl x) l (bump (sl x) m) else (false, m)
def lst {α : Type} (sl : α → Int) (pre : List α) : Int := match pre.getLast? with | some x => sl x | none => -1
def mAft {α : Type} (sl : α → Int) (pre : List α) (m : IM) : IM := pre.foldl (fun m x => bump (sl x) m) m
theorem soundUse_ok (l : List Use) (lay : Layout) (hlay : lay.ok) (m : IM) (hl : l.length ≤ 4000000) :
  GCalls Tryz.prog 112 [.d (.list 4 (l.map encUse)), .d (encLayout lay), .omap 0] [.map (ents .i64 (encM m))] (.d (B (snd (fun x => isUse x lay) (fun x => x.cell.slot) (-1) l m).1)) [.map (ents .i64 (encM (snd (fun x => isUse x lay) (fun x => x.cell.slot) (-1) l m).2))] := by
 refine gcalls_of_vc tabOk 38 Tryz.func112 rfl (by kernel_rfl) rfl rfl ?_
 repeat (first | refine xp ?_ | refine xs ?_ | refine xR ?_ | refine xa ?_ | refine xw ?_ | refine xn ?_ | refine xb ?_ | refine xq ?_ | refine vc_seq ?_ | refine vc_skip ?_ | refine xr ?_ | refine xd ?_ | refine vc_block ?_ | refine vc_exit ?_ | refine vc_condT rfl ?_ | refine vc_condF rfl ?_)
 refine vc_loop ?_
 refine vcl_keep [(2, _), (4, .own 1 0), (7, _), (10, _), (11, _), (12, _)] 2 ⟨.f rfl, .f rfl, .f rfl, .f rfl, .f rfl, .f rfl, trivial⟩ rfl (by simp) (by simp) rfl rfl ?_
 refine vcl_listI l (fun pre => ∀ post, snd (fun x => isUse x lay) (fun x => x.cell.slot) (-1) (pre ++ post) m = snd (fun x => isUse x lay) (fun x => x.cell.slot) (lst (fun x => x.cell.slot) pre) post (mAft (fun x => x.cell.slot) pre m))
  (fun pre => envOf [(2, .omap 0), (4, .own 1 0), (7, .d (I (lst (fun x => x.cell.slot) pre))), (10, .d (.list 4 (l.map encUse))), (11, .d (I (l.map encUse).length)), (12, .d (I pre.length))]) (fun pre => [.map (ents .i64 (encM (mAft (fun x => x.cell.slot) pre m))), .cells [.d (I lay.nodes), .d (I lay.data)]]) (fun post => rfl) ?step ?done
 case step =>
  intro pre x post h hj ih
  have hlt := lt_len h
  have hj' := hj (x :: post)
  rw [← h] at hj'
  refine vcl_unroll ?_
  repeat (first | refine xp ?_ | refine xs ?_ | refine xR ?_ | refine xa ?_ | refine xw ?_ | refine xn ?_ | refine xb ?_ | refine xq ?_ | refine vc_seq ?_ | refine vc_skip ?_ | refine xr ?_ | refine xd ?_ | refine vc_block ?_ | refine vc_exit ?_ | refine vc_condT rfl ?_ | refine vc_condF rfl ?_)
  refine vc_cond rfl (fun _ => ?_) (fun hf => absurd hf (by simp; omega))
  repeat (first | refine xp ?_ | refine xs ?_ | refine xR ?_ | refine xa ?_ | refine xw ?_ | refine xn ?_ | refine xb ?_ | refine xq ?_ | refine vc_seq ?_ | refine vc_skip ?_ | refine xr ?_ | refine xd ?_ | refine vc_block ?_ | refine vc_exit ?_ | refine vc_condT rfl ?_ | refine vc_condF rfl ?_)
  refine ri rfl rfl rfl rfl rfl rfl rfl (by omega) (idx_map h) ?_
  repeat (first | refine xp ?_ | refine xs ?_ | refine xR ?_ | refine xa ?_ | refine xw ?_ | refine xn ?_ | refine xb ?_ | refine xq ?_ | refine vc_seq ?_ | refine vc_skip ?_ | refine xr ?_ | refine xd ?_ | refine vc_block ?_ | refine vc_exit ?_ | refine vc_condT rfl ?_ | refine vc_condF rfl ?_)
  refine rinv rfl rfl rfl rfl rfl rfl rfl rfl (List.mem_cons_of_mem _ (List.mem_cons_self ..)) (useValid_ok x lay) ?_
  repeat (first | refine xp ?_ | refine xs ?_ | refine xR ?_ | refine xa ?_ | refine xw ?_ | refine xn ?_ | refine xb ?_ | refine xq ?_ | refine vc_seq ?_ | refine vc_skip ?_ | refine xr ?_ | refine xd ?_ | refine vc_block ?_ | refine vc_exit ?_ | refine vc_condT rfl ?_ | refine vc_condF rfl ?_)
  cases hv : isUse x lay
  ·have hr : snd (fun x => isUse x lay) (fun x => x.cell.slot) (-1) l m = (false, mAft (fun x => x.cell.slot) pre m) := by rw [hj']; simp [snd, hv]
   rw [hr]
   repeat (first | refine xp ?_ | refine xs ?_ | refine xR ?_ | refine xa ?_ | refine xw ?_ | refine xn ?_ | refine xb ?_ | refine xq ?_ | refine vc_seq ?_ | refine vc_skip ?_ | refine xr ?_ | refine xd ?_ | refine vc_block ?_ | refine vc_exit ?_ | refine vc_condT rfl ?_ | refine vc_condF rfl ?_)
   refine vc_ret ⟨.inr rfl, [0], _, ⟨rfl, by decide, rfl, rfl, .cons rfl .nil, rfl, .f rfl⟩⟩
  ·repeat (first | refine xp ?_ | refine xs ?_ | refine xR ?_ | refine xa ?_ | refine xw ?_ | refine xn ?_ | refine xb ?_ | refine xq ?_ | refine vc_seq ?_ | refine vc_skip ?_ | refine xr ?_ | refine xd ?_ | refine vc_block ?_ | refine vc_exit ?_ | refine vc_condT rfl ?_ | refine vc_condF rfl ?_)
   refine rinv rfl rfl rfl rfl rfl rfl rfl rfl (List.mem_cons_self ..) (useCell_ok x) ?_
   repeat (first | refine xp ?_ | refine xs ?_ | refine xR ?_ | refine xa ?_ | refine xw ?_ | refine xn ?_ | refine xb ?_ | refine xq ?_ | refine vc_seq ?_ | refine vc_skip ?_ | refine xr ?_ | refine xd ?_ | refine vc_block ?_ | refine vc_exit ?_ | refine vc_condT rfl ?_ | refine vc_condF rfl ?_)
   cases hs : decide (x.cell.slot ≤ lst (fun x : Use => x.cell.slot) pre)
   ·repeat (first | refine xp ?_ | refine xs ?_ | refine xR ?_ | refine xa ?_ | refine xw ?_ | refine xn ?_ | refine xb ?_ | refine xq ?_ | refine vc_seq ?_ | refine vc_skip ?_ | refine xr ?_ | refine xd ?_ | refine vc_block ?_ | refine vc_exit ?_ | refine vc_condT rfl ?_ | refine vc_condF rfl ?_)
    refine rinv rfl rfl rfl rfl rfl rfl rfl rfl (List.mem_cons_self ..) (useCell_ok x) ?_
    repeat (first | refine xp ?_ | refine xs ?_ | refine xR ?_ | refine xa ?_ | refine xw ?_ | refine xn ?_ | refine xb ?_ | refine xq ?_ | refine vc_seq ?_ | refine vc_skip ?_ | refine xr ?_ | refine xd ?_ | refine vc_block ?_ | refine vc_exit ?_ | refine vc_condT rfl ?_ | refine vc_condF rfl ?_)
    refine rml (z := .int .i64 0) rfl rfl rfl rfl rfl rfl (by kernel_rfl) rfl rfl ?_
    rw [mgetD_enc]
    repeat (first | refine xp ?_ | refine xs ?_ | refine xR ?_ | refine xa ?_ | refine xw ?_ | refine xn ?_ | refine xb ?_ | refine xq ?_ | refine vc_seq ?_ | refine vc_skip ?_ | refine xr ?_ | refine xd ?_ | refine vc_block ?_ | refine vc_exit ?_ | refine vc_condT rfl ?_ | refine vc_condF rfl ?_)
    refine rmu rfl rfl rfl rfl rfl rfl rfl rfl ?_
    repeat (first | refine xp ?_ | refine xs ?_ | refine xR ?_ | refine xa ?_ | refine xw ?_ | refine xn ?_ | refine xb ?_ | refine xq ?_ | refine vc_seq ?_ | refine vc_skip ?_ | refine xr ?_ | refine xd ?_ | refine vc_block ?_ | refine vc_exit ?_ | refine vc_condT rfl ?_ | refine vc_condF rfl ?_)
    have hl1 : lst (fun x : Use => x.cell.slot) (pre ++ [x]) = x.cell.slot := by simp [lst]
    have hm1 : mAft (fun x : Use => x.cell.slot) (pre ++ [x]) m = bump x.cell.slot (mAft (fun x : Use => x.cell.slot) pre m) := by simp [mAft]
    refine vcl_go (ih (fun post => ?_)) 2 (by rw [hm1]; exact congrArg (fun z => [Obj.map (ents .i64 z), _]) mput_enc) (by simp) (by simp) rfl rfl ⟨.f rfl, .f rfl, .f2 rfl (by rw [hl1]), .f rfl, .f rfl, .f2 rfl (by rw [i64_wrap (by omega) (by omega)]; simp), trivial⟩
    have := hj (x :: post)
    rw [List.append_assoc, List.singleton_append, this, hl1, hm1]
    simp only [snd, hv, hs, Bool.not_false, Bool.and_true, if_true]
   ·have hr : snd (fun x => isUse x lay) (fun x => x.cell.slot) (-1) l m = (false, mAft (fun x => x.cell.slot) pre m) := by rw [hj']; simp only [snd, hv, hs, Bool.not_true, Bool.and_false]; simp
    rw [hr]
    repeat (first | refine xp ?_ | refine xs ?_ | refine xR ?_ | refine xa ?_ | refine xw ?_ | refine xn ?_ | refine xb ?_ | refine xq ?_ | refine vc_seq ?_ | refine vc_skip ?_ | refine xr ?_ | refine xd ?_ | refine vc_block ?_ | refine vc_exit ?_ | refine vc_condT rfl ?_ | refine vc_condF rfl ?_)
    refine vc_ret ⟨.inr rfl, [0], _, ⟨rfl, by decide, rfl, rfl, .cons rfl .nil, rfl, .f rfl⟩⟩
 case done =>
  intro hj
  have hr : snd (fun x => isUse x lay) (fun x => x.cell.slot) (-1) l m = (true, mAft (fun x => x.cell.slot) l m) := by
   have := hj []
   rw [List.append_nil] at this
   rw [this]; rfl
  rw [hr]
  refine vcl_unroll ?_
  repeat (first | refine xp ?_ | refine xs ?_ | refine xR ?_ | refine xa ?_ | refine xw ?_ | refine xn ?_ | refine xb ?_ | refine xq ?_ | refine vc_seq ?_ | refine vc_skip ?_ | refine xr ?_ | refine xd ?_ | refine vc_block ?_ | refine vc_exit ?_ | refine vc_condT rfl ?_ | refine vc_condF rfl ?_)
  refine vc_cond rfl (fun ht => absurd ht (by simp)) (fun _ => ?_)
  repeat (first | refine xp ?_ | refine xs ?_ | refine xR ?_ | refine xa ?_ | refine xw ?_ | refine xn ?_ | refine xb ?_ | refine xq ?_ | refine vc_seq ?_ | refine vc_skip ?_ | refine xr ?_ | refine xd ?_ | refine vc_block ?_ | refine vc_exit ?_ | refine vc_condT rfl ?_ | refine vc_condF rfl ?_)
  refine vc_ret ⟨.inr rfl, [0], _, ⟨rfl, by decide, rfl, rfl, .cons rfl .nil, rfl, .f rfl⟩⟩
theorem soundGrant_ok (l : List Grant) (lay : Layout) (hlay : lay.ok) (m : IM) (hl : l.length ≤ 4000000) :
  GCalls Tryz.prog 114 [.d (.list 5 (l.map encGrant)), .d (encLayout lay), .omap 0] [.map (ents .i64 (encM m))] (.d (B (snd (fun x => isGrant x lay) (fun x => x.cell.slot) (-1) l m).1)) [.map (ents .i64 (encM (snd (fun x => isGrant x lay) (fun x => x.cell.slot) (-1) l m).2))] := by
 refine gcalls_of_vc tabOk 38 Tryz.func114 rfl (by kernel_rfl) rfl rfl ?_
 repeat (first | refine xp ?_ | refine xs ?_ | refine xR ?_ | refine xa ?_ | refine xw ?_ | refine xn ?_ | refine xb ?_ | refine xq ?_ | refine vc_seq ?_ | refine vc_skip ?_ | refine xr ?_ | refine xd ?_ | refine vc_block ?_ | refine vc_exit ?_ | refine vc_condT rfl ?_ | refine vc_condF rfl ?_)
 refine vc_loop ?_
 refine vcl_keep [(2, _), (4, .own 1 0), (7, _), (10, _), (11, _), (12, _)] 2 ⟨.f rfl, .f rfl, .f rfl, .f rfl, .f rfl, .f rfl, trivial⟩ rfl (by simp) (by simp) rfl rfl ?_
 refine vcl_listI l (fun pre => ∀ post, snd (fun x => isGrant x lay) (fun x => x.cell.slot) (-1) (pre ++ post) m = snd (fun x => isGrant x lay) (fun x => x.cell.slot) (lst (fun x => x.cell.slot) pre) post (mAft (fun x => x.cell.slot) pre m))
  (fun pre => envOf [(2, .omap 0), (4, .own 1 0), (7, .d (I (lst (fun x => x.cell.slot) pre))), (10, .d (.list 5 (l.map encGrant))), (11, .d (I (l.map encGrant).length)), (12, .d (I pre.length))]) (fun pre => [.map (ents .i64 (encM (mAft (fun x => x.cell.slot) pre m))), .cells [.d (I lay.nodes), .d (I lay.data)]]) (fun post => rfl) ?step ?done
 case step =>
  intro pre x post h hj ih
  have hlt := lt_len h
  have hj' := hj (x :: post)
  rw [← h] at hj'
  refine vcl_unroll ?_
  repeat (first | refine xp ?_ | refine xs ?_ | refine xR ?_ | refine xa ?_ | refine xw ?_ | refine xn ?_ | refine xb ?_ | refine xq ?_ | refine vc_seq ?_ | refine vc_skip ?_ | refine xr ?_ | refine xd ?_ | refine vc_block ?_ | refine vc_exit ?_ | refine vc_condT rfl ?_ | refine vc_condF rfl ?_)
  refine vc_cond rfl (fun _ => ?_) (fun hf => absurd hf (by simp; omega))
  repeat (first | refine xp ?_ | refine xs ?_ | refine xR ?_ | refine xa ?_ | refine xw ?_ | refine xn ?_ | refine xb ?_ | refine xq ?_ | refine vc_seq ?_ | refine vc_skip ?_ | refine xr ?_ | refine xd ?_ | refine vc_block ?_ | refine vc_exit ?_ | refine vc_condT rfl ?_ | refine vc_condF rfl ?_)
  refine ri rfl rfl rfl rfl rfl rfl rfl (by omega) (idx_map h) ?_
  repeat (first | refine xp ?_ | refine xs ?_ | refine xR ?_ | refine xa ?_ | refine xw ?_ | refine xn ?_ | refine xb ?_ | refine xq ?_ | refine vc_seq ?_ | refine vc_skip ?_ | refine xr ?_ | refine xd ?_ | refine vc_block ?_ | refine vc_exit ?_ | refine vc_condT rfl ?_ | refine vc_condF rfl ?_)
  refine rinv rfl rfl rfl rfl rfl rfl rfl rfl (List.mem_cons_of_mem _ (List.mem_cons_self ..)) (grantValid_ok x lay) ?_
  repeat (first | refine xp ?_ | refine xs ?_ | refine xR ?_ | refine xa ?_ | refine xw ?_ | refine xn ?_ | refine xb ?_ | refine xq ?_ | refine vc_seq ?_ | refine vc_skip ?_ | refine xr ?_ | refine xd ?_ | refine vc_block ?_ | refine vc_exit ?_ | refine vc_condT rfl ?_ | refine vc_condF rfl ?_)
  cases hv : isGrant x lay
  ·have hr : snd (fun x => isGrant x lay) (fun x => x.cell.slot) (-1) l m = (false, mAft (fun x => x.cell.slot) pre m) := by rw [hj']; simp [snd, hv]
   rw [hr]
   repeat (first | refine xp ?_ | refine xs ?_ | refine xR ?_ | refine xa ?_ | refine xw ?_ | refine xn ?_ | refine xb ?_ | refine xq ?_ | refine vc_seq ?_ | refine vc_skip ?_ | refine xr ?_ | refine xd ?_ | refine vc_block ?_ | refine vc_exit ?_ | refine vc_condT rfl ?_ | refine vc_condF rfl ?_)
   refine vc_ret ⟨.inr rfl, [0], _, ⟨rfl, by decide, rfl, rfl, .cons rfl .nil, rfl, .f rfl⟩⟩
  ·repeat (first | refine xp ?_ | refine xs ?_ | refine xR ?_ | refine xa ?_ | refine xw ?_ | refine xn ?_ | refine xb ?_ | refine xq ?_ | refine vc_seq ?_ | refine vc_skip ?_ | refine xr ?_ | refine xd ?_ | refine vc_block ?_ | refine vc_exit ?_ | refine vc_condT rfl ?_ | refine vc_condF rfl ?_)
   refine rinv rfl rfl rfl rfl rfl rfl rfl rfl (List.mem_cons_self ..) (grantCell_ok x) ?_
   repeat (first | refine xp ?_ | refine xs ?_ | refine xR ?_ | refine xa ?_ | refine xw ?_ | refine xn ?_ | refine xb ?_ | refine xq ?_ | refine vc_seq ?_ | refine vc_skip ?_ | refine xr ?_ | refine xd ?_ | refine vc_block ?_ | refine vc_exit ?_ | refine vc_condT rfl ?_ | refine vc_condF rfl ?_)
   cases hs : decide (x.cell.slot ≤ lst (fun x : Grant => x.cell.slot) pre)
   ·repeat (first | refine xp ?_ | refine xs ?_ | refine xR ?_ | refine xa ?_ | refine xw ?_ | refine xn ?_ | refine xb ?_ | refine xq ?_ | refine vc_seq ?_ | refine vc_skip ?_ | refine xr ?_ | refine xd ?_ | refine vc_block ?_ | refine vc_exit ?_ | refine vc_condT rfl ?_ | refine vc_condF rfl ?_)
    refine rinv rfl rfl rfl rfl rfl rfl rfl rfl (List.mem_cons_self ..) (grantCell_ok x) ?_
    repeat (first | refine xp ?_ | refine xs ?_ | refine xR ?_ | refine xa ?_ | refine xw ?_ | refine xn ?_ | refine xb ?_ | refine xq ?_ | refine vc_seq ?_ | refine vc_skip ?_ | refine xr ?_ | refine xd ?_ | refine vc_block ?_ | refine vc_exit ?_ | refine vc_condT rfl ?_ | refine vc_condF rfl ?_)
    refine rml (z := .int .i64 0) rfl rfl rfl rfl rfl rfl (by kernel_rfl) rfl rfl ?_
    rw [mgetD_enc]
    repeat (first | refine xp ?_ | refine xs ?_ | refine xR ?_ | refine xa ?_ | refine xw ?_ | refine xn ?_ | refine xb ?_ | refine xq ?_ | refine vc_seq ?_ | refine vc_skip ?_ | refine xr ?_ | refine xd ?_ | refine vc_block ?_ | refine vc_exit ?_ | refine vc_condT rfl ?_ | refine vc_condF rfl ?_)
    refine rmu rfl rfl rfl rfl rfl rfl rfl rfl ?_
    repeat (first | refine xp ?_ | refine xs ?_ | refine xR ?_ | refine xa ?_ | refine xw ?_ | refine xn ?_ | refine xb ?_ | refine xq ?_ | refine vc_seq ?_ | refine vc_skip ?_ | refine xr ?_ | refine xd ?_ | refine vc_block ?_ | refine vc_exit ?_ | refine vc_condT rfl ?_ | refine vc_condF rfl ?_)
    have hl1 : lst (fun x : Grant => x.cell.slot) (pre ++ [x]) = x.cell.slot := by simp [lst]
    have hm1 : mAft (fun x : Grant => x.cell.slot) (pre ++ [x]) m = bump x.cell.slot (mAft (fun x : Grant => x.cell.slot) pre m) := by simp [mAft]
    refine vcl_go (ih (fun post => ?_)) 2 (by rw [hm1]; exact congrArg (fun z => [Obj.map (ents .i64 z), _]) mput_enc) (by simp) (by simp) rfl rfl ⟨.f rfl, .f rfl, .f2 rfl (by rw [hl1]), .f rfl, .f rfl, .f2 rfl (by rw [i64_wrap (by omega) (by omega)]; simp), trivial⟩
    have := hj (x :: post)
    rw [List.append_assoc, List.singleton_append, this, hl1, hm1]
    simp only [snd, hv, hs, Bool.not_false, Bool.and_true, if_true]
   ·have hr : snd (fun x => isGrant x lay) (fun x => x.cell.slot) (-1) l m = (false, mAft (fun x => x.cell.slot) pre m) := by rw [hj']; simp only [snd, hv, hs, Bool.not_true, Bool.and_false]; simp
    rw [hr]
    repeat (first | refine xp ?_ | refine xs ?_ | refine xR ?_ | refine xa ?_ | refine xw ?_ | refine xn ?_ | refine xb ?_ | refine xq ?_ | refine vc_seq ?_ | refine vc_skip ?_ | refine xr ?_ | refine xd ?_ | refine vc_block ?_ | refine vc_exit ?_ | refine vc_condT rfl ?_ | refine vc_condF rfl ?_)
    refine vc_ret ⟨.inr rfl, [0], _, ⟨rfl, by decide, rfl, rfl, .cons rfl .nil, rfl, .f rfl⟩⟩
 case done =>
  intro hj
  have hr : snd (fun x => isGrant x lay) (fun x => x.cell.slot) (-1) l m = (true, mAft (fun x => x.cell.slot) l m) := by
   have := hj []
   rw [List.append_nil] at this
   rw [this]; rfl
  rw [hr]
  refine vcl_unroll ?_
  repeat (first | refine xp ?_ | refine xs ?_ | refine xR ?_ | refine xa ?_ | refine xw ?_ | refine xn ?_ | refine xb ?_ | refine xq ?_ | refine vc_seq ?_ | refine vc_skip ?_ | refine xr ?_ | refine xd ?_ | refine vc_block ?_ | refine vc_exit ?_ | refine vc_condT rfl ?_ | refine vc_condF rfl ?_)
  refine vc_cond rfl (fun ht => absurd ht (by simp)) (fun _ => ?_)
  repeat (first | refine xp ?_ | refine xs ?_ | refine xR ?_ | refine xa ?_ | refine xw ?_ | refine xn ?_ | refine xb ?_ | refine xq ?_ | refine vc_seq ?_ | refine vc_skip ?_ | refine xr ?_ | refine xd ?_ | refine vc_block ?_ | refine vc_exit ?_ | refine vc_condT rfl ?_ | refine vc_condF rfl ?_)
  refine vc_ret ⟨.inr rfl, [0], _, ⟨rfl, by decide, rfl, rfl, .cons rfl .nil, rfl, .f rfl⟩⟩
theorem soundAsk_ok (l : List Ask) (lay : Layout) (hlay : lay.ok) (m : IM) (hl : l.length ≤ 4000000) :
  GCalls Tryz.prog 116 [.d (.list 3 (l.map encAsk)), .d (encLayout lay), .omap 0] [.map (ents .i64 (encM m))] (.d (B (snd (fun x => isAsk x lay) (fun x => x.cell.slot) (-1) l m).1)) [.map (ents .i64 (encM (snd (fun x => isAsk x lay) (fun x => x.cell.slot) (-1) l m).2))] := by
 refine gcalls_of_vc tabOk 38 Tryz.func116 rfl (by kernel_rfl) rfl rfl ?_
 repeat (first | refine xp ?_ | refine xs ?_ | refine xR ?_ | refine xa ?_ | refine xw ?_ | refine xn ?_ | refine xb ?_ | refine xq ?_ | refine vc_seq ?_ | refine vc_skip ?_ | refine xr ?_ | refine xd ?_ | refine vc_block ?_ | refine vc_exit ?_ | refine vc_condT rfl ?_ | refine vc_condF rfl ?_)
 refine vc_loop ?_
 refine vcl_keep [(2, _), (4, .own 1 0), (7, _), (10, _), (11, _), (12, _)] 2 ⟨.f rfl, .f rfl, .f rfl, .f rfl, .f rfl, .f rfl, trivial⟩ rfl (by simp) (by simp) rfl rfl ?_
 refine vcl_listI l (fun pre => ∀ post, snd (fun x => isAsk x lay) (fun x => x.cell.slot) (-1) (pre ++ post) m = snd (fun x => isAsk x lay) (fun x => x.cell.slot) (lst (fun x => x.cell.slot) pre) post (mAft (fun x => x.cell.slot) pre m))
  (fun pre => envOf [(2, .omap 0), (4, .own 1 0), (7, .d (I (lst (fun x => x.cell.slot) pre))), (10, .d (.list 3 (l.map encAsk))), (11, .d (I (l.map encAsk).length)), (12, .d (I pre.length))]) (fun pre => [.map (ents .i64 (encM (mAft (fun x => x.cell.slot) pre m))), .cells [.d (I lay.nodes), .d (I lay.data)]]) (fun post => rfl) ?step ?done
 case step =>
  intro pre x post h hj ih
  have hlt := lt_len h
  have hj' := hj (x :: post)
  rw [← h] at hj'
  refine vcl_unroll ?_
  repeat (first | refine xp ?_ | refine xs ?_ | refine xR ?_ | refine xa ?_ | refine xw ?_ | refine xn ?_ | refine xb ?_ | refine xq ?_ | refine vc_seq ?_ | refine vc_skip ?_ | refine xr ?_ | refine xd ?_ | refine vc_block ?_ | refine vc_exit ?_ | refine vc_condT rfl ?_ | refine vc_condF rfl ?_)
  refine vc_cond rfl (fun _ => ?_) (fun hf => absurd hf (by simp; omega))
  repeat (first | refine xp ?_ | refine xs ?_ | refine xR ?_ | refine xa ?_ | refine xw ?_ | refine xn ?_ | refine xb ?_ | refine xq ?_ | refine vc_seq ?_ | refine vc_skip ?_ | refine xr ?_ | refine xd ?_ | refine vc_block ?_ | refine vc_exit ?_ | refine vc_condT rfl ?_ | refine vc_condF rfl ?_)
  refine ri rfl rfl rfl rfl rfl rfl rfl (by omega) (idx_map h) ?_
  repeat (first | refine xp ?_ | refine xs ?_ | refine xR ?_ | refine xa ?_ | refine xw ?_ | refine xn ?_ | refine xb ?_ | refine xq ?_ | refine vc_seq ?_ | refine vc_skip ?_ | refine xr ?_ | refine xd ?_ | refine vc_block ?_ | refine vc_exit ?_ | refine vc_condT rfl ?_ | refine vc_condF rfl ?_)
  refine rinv rfl rfl rfl rfl rfl rfl rfl rfl (List.mem_cons_of_mem _ (List.mem_cons_self ..)) (askValid_ok x lay) ?_
  repeat (first | refine xp ?_ | refine xs ?_ | refine xR ?_ | refine xa ?_ | refine xw ?_ | refine xn ?_ | refine xb ?_ | refine xq ?_ | refine vc_seq ?_ | refine vc_skip ?_ | refine xr ?_ | refine xd ?_ | refine vc_block ?_ | refine vc_exit ?_ | refine vc_condT rfl ?_ | refine vc_condF rfl ?_)
  cases hv : isAsk x lay
  ·have hr : snd (fun x => isAsk x lay) (fun x => x.cell.slot) (-1) l m = (false, mAft (fun x => x.cell.slot) pre m) := by rw [hj']; simp [snd, hv]
   rw [hr]
   repeat (first | refine xp ?_ | refine xs ?_ | refine xR ?_ | refine xa ?_ | refine xw ?_ | refine xn ?_ | refine xb ?_ | refine xq ?_ | refine vc_seq ?_ | refine vc_skip ?_ | refine xr ?_ | refine xd ?_ | refine vc_block ?_ | refine vc_exit ?_ | refine vc_condT rfl ?_ | refine vc_condF rfl ?_)
   refine vc_ret ⟨.inr rfl, [0], _, ⟨rfl, by decide, rfl, rfl, .cons rfl .nil, rfl, .f rfl⟩⟩
  ·repeat (first | refine xp ?_ | refine xs ?_ | refine xR ?_ | refine xa ?_ | refine xw ?_ | refine xn ?_ | refine xb ?_ | refine xq ?_ | refine vc_seq ?_ | refine vc_skip ?_ | refine xr ?_ | refine xd ?_ | refine vc_block ?_ | refine vc_exit ?_ | refine vc_condT rfl ?_ | refine vc_condF rfl ?_)
   refine rinv rfl rfl rfl rfl rfl rfl rfl rfl (List.mem_cons_self ..) (askCell_ok x) ?_
   repeat (first | refine xp ?_ | refine xs ?_ | refine xR ?_ | refine xa ?_ | refine xw ?_ | refine xn ?_ | refine xb ?_ | refine xq ?_ | refine vc_seq ?_ | refine vc_skip ?_ | refine xr ?_ | refine xd ?_ | refine vc_block ?_ | refine vc_exit ?_ | refine vc_condT rfl ?_ | refine vc_condF rfl ?_)
   cases hs : decide (x.cell.slot ≤ lst (fun x : Ask => x.cell.slot) pre)
   ·repeat (first | refine xp ?_ | refine xs ?_ | refine xR ?_ | refine xa ?_ | refine xw ?_ | refine xn ?_ | refine xb ?_ | refine xq ?_ | refine vc_seq ?_ | refine vc_skip ?_ | refine xr ?_ | refine xd ?_ | refine vc_block ?_ | refine vc_exit ?_ | refine vc_condT rfl ?_ | refine vc_condF rfl ?_)
    refine rinv rfl rfl rfl rfl rfl rfl rfl rfl (List.mem_cons_self ..) (askCell_ok x) ?_
    repeat (first | refine xp ?_ | refine xs ?_ | refine xR ?_ | refine xa ?_ | refine xw ?_ | refine xn ?_ | refine xb ?_ | refine xq ?_ | refine vc_seq ?_ | refine vc_skip ?_ | refine xr ?_ | refine xd ?_ | refine vc_block ?_ | refine vc_exit ?_ | refine vc_condT rfl ?_ | refine vc_condF rfl ?_)
    refine rml (z := .int .i64 0) rfl rfl rfl rfl rfl rfl (by kernel_rfl) rfl rfl ?_
    rw [mgetD_enc]
    repeat (first | refine xp ?_ | refine xs ?_ | refine xR ?_ | refine xa ?_ | refine xw ?_ | refine xn ?_ | refine xb ?_ | refine xq ?_ | refine vc_seq ?_ | refine vc_skip ?_ | refine xr ?_ | refine xd ?_ | refine vc_block ?_ | refine vc_exit ?_ | refine vc_condT rfl ?_ | refine vc_condF rfl ?_)
    refine rmu rfl rfl rfl rfl rfl rfl rfl rfl ?_
    repeat (first | refine xp ?_ | refine xs ?_ | refine xR ?_ | refine xa ?_ | refine xw ?_ | refine xn ?_ | refine xb ?_ | refine xq ?_ | refine vc_seq ?_ | refine vc_skip ?_ | refine xr ?_ | refine xd ?_ | refine vc_block ?_ | refine vc_exit ?_ | refine vc_condT rfl ?_ | refine vc_condF rfl ?_)
    have hl1 : lst (fun x : Ask => x.cell.slot) (pre ++ [x]) = x.cell.slot := by simp [lst]
    have hm1 : mAft (fun x : Ask => x.cell.slot) (pre ++ [x]) m = bump x.cell.slot (mAft (fun x : Ask => x.cell.slot) pre m) := by simp [mAft]
    refine vcl_go (ih (fun post => ?_)) 2 (by rw [hm1]; exact congrArg (fun z => [Obj.map (ents .i64 z), _]) mput_enc) (by simp) (by simp) rfl rfl ⟨.f rfl, .f rfl, .f2 rfl (by rw [hl1]), .f rfl, .f rfl, .f2 rfl (by rw [i64_wrap (by omega) (by omega)]; simp), trivial⟩
    have := hj (x :: post)
    rw [List.append_assoc, List.singleton_append, this, hl1, hm1]
    simp only [snd, hv, hs, Bool.not_false, Bool.and_true, if_true]
   ·have hr : snd (fun x => isAsk x lay) (fun x => x.cell.slot) (-1) l m = (false, mAft (fun x => x.cell.slot) pre m) := by rw [hj']; simp only [snd, hv, hs, Bool.not_true, Bool.and_false]; simp
    rw [hr]
    repeat (first | refine xp ?_ | refine xs ?_ | refine xR ?_ | refine xa ?_ | refine xw ?_ | refine xn ?_ | refine xb ?_ | refine xq ?_ | refine vc_seq ?_ | refine vc_skip ?_ | refine xr ?_ | refine xd ?_ | refine vc_block ?_ | refine vc_exit ?_ | refine vc_condT rfl ?_ | refine vc_condF rfl ?_)
    refine vc_ret ⟨.inr rfl, [0], _, ⟨rfl, by decide, rfl, rfl, .cons rfl .nil, rfl, .f rfl⟩⟩
 case done =>
  intro hj
  have hr : snd (fun x => isAsk x lay) (fun x => x.cell.slot) (-1) l m = (true, mAft (fun x => x.cell.slot) l m) := by
   have := hj []
   rw [List.append_nil] at this
   rw [this]; rfl
  rw [hr]
  refine vcl_unroll ?_
  repeat (first | refine xp ?_ | refine xs ?_ | refine xR ?_ | refine xa ?_ | refine xw ?_ | refine xn ?_ | refine xb ?_ | refine xq ?_ | refine vc_seq ?_ | refine vc_skip ?_ | refine xr ?_ | refine xd ?_ | refine vc_block ?_ | refine vc_exit ?_ | refine vc_condT rfl ?_ | refine vc_condF rfl ?_)
  refine vc_cond rfl (fun ht => absurd ht (by simp)) (fun _ => ?_)
  repeat (first | refine xp ?_ | refine xs ?_ | refine xR ?_ | refine xa ?_ | refine xw ?_ | refine xn ?_ | refine xb ?_ | refine xq ?_ | refine vc_seq ?_ | refine vc_skip ?_ | refine xr ?_ | refine xd ?_ | refine vc_block ?_ | refine vc_exit ?_ | refine vc_condT rfl ?_ | refine vc_condF rfl ?_)
  refine vc_ret ⟨.inr rfl, [0], _, ⟨rfl, by decide, rfl, rfl, .cons rfl .nil, rfl, .f rfl⟩⟩
end Go.VM.Tryz
namespace Go.VM.Tryz
open Go.Proofs
def told (a0 : Int) (t : Table) (frame : Int) : (List Near) := [⟨frame, a0, ⟨t.uses, t.grants, t.asks⟩, ⟨I 0, I 0, I 0, I 0, I 0, I 0, I 0, I 0, I 0, I 0, .lit (.slice none 0 0), B false, .lit (.slice none 0 0), .lit (.slice none 0 0), .lit (.slice none 0 0), I 0, I 0, .lit (.int .u64 0), I 0, I 0, I 0, I 0, I 0, .lit (.slice none 0 0), .lit (.slice none 0 0), B false⟩⟩]
theorem told_ok (a0 : Int) (t : Table) (frame : Int) (r : (List Near)) (h : told a0 t frame = r) : PCalls Tryz.prog 32 [I a0, encTable t, I frame] (.list 31 (r.map encNear)) := by
 unfold told at h
 refine xe 18 Tryz.func32 ?_
 refine xsr ?_
 refine xa ?_
 refine xp ?_
 refine xq ?_
 refine vc_seq ?_
 refine xk [] [(0, .d (I a0)), (2, .d (I frame)), (4, .d (.ptr [.list 4 (t.uses.map encUse), .list 5 (t.grants.map encGrant), .list 3 (t.asks.map encAsk)]))] .nil (xh2 ⟨.z (.own' rfl (.cons .d (.cons .d (.cons .d .nil)))) .refl, trivial⟩) ?_
 refine xr ?_
 iterate 10 refine xp ?_
 refine xb ?_
 refine xp ?_
 refine xq ?_
 refine vc_ret ⟨.inr rfl, [.list 31 ([⟨frame, a0, ⟨t.uses, t.grants, t.asks⟩, ⟨I 0, I 0, I 0, I 0, I 0, I 0, I 0, I 0, I 0, I 0, .lit (.slice none 0 0), B false, .lit (.slice none 0 0), .lit (.slice none 0 0), .lit (.slice none 0 0), I 0, I 0, .lit (.int .u64 0), I 0, I 0, I 0, I 0, I 0, .lit (.slice none 0 0), .lit (.slice none 0 0), B false⟩⟩].map encNear)], (.cons rfl ⟨_, .d, .refl⟩ .nil), ?_⟩
 first | (rw [← h]; done) | (rw [← h]; rfl) | (rw [← h]; simp)
def r12Same_L1 (b : Table) : List Use → Int → Option (Sum (Unit) (Bool))
 | [], i4 => some (.inl ())
 | x5 :: l, i4 => Option.bind (elt b.uses i4) fun v9 => cond (((x5.cell.slot == v9.cell.slot) && ((x5.cell.offset == v9.cell.offset) && true)) && ((x5.peer == v9.peer) && ((x5.stamp == v9.stamp) && true))) (r12Same_L1 b l (i4 + 1)) (some (.inr false))
def r12Same_L2 (b : Table) : List Grant → Int → Option (Sum (Unit) (Bool))
 | [], i11 => some (.inl ())
 | x12 :: l, i11 => Option.bind (elt b.grants i11) fun v16 => cond (((x12.cell.slot == v16.cell.slot) && ((x12.cell.offset == v16.cell.offset) && true)) && ((x12.peer == v16.peer) && ((x12.stamp == v16.stamp) && ((x12.til == v16.til) && true)))) (r12Same_L2 b l (i11 + 1)) (some (.inr false))
def r12Same_L3 (b : Table) : List Ask → Int → Option (Sum (Unit) (Bool))
 | [], i18 => some (.inl ())
 | x19 :: l, i18 => Option.bind (elt b.asks i18) fun v23 => cond (((x19.cell.slot == v23.cell.slot) && ((x19.cell.offset == v23.cell.offset) && true)) && ((x19.peer == v23.peer) && true)) (r12Same_L3 b l (i18 + 1)) (some (.inr false))
def r12Same (a : Table) (b : Table) : Option (Bool) := cond (((a.uses.length : Int) != (b.uses.length : Int)) || (((a.grants.length : Int) != (b.grants.length : Int)) || ((a.asks.length : Int) != (b.asks.length : Int)))) (some false) (Option.bind (r12Same_L1 b a.uses 0) fun v6 => Sum.elim (fun v7 => Option.bind (r12Same_L2 b a.grants 0) fun v13 => Sum.elim (fun v14 => Option.bind (r12Same_L3 b a.asks 0) fun v20 => Sum.elim (fun v21 => some true) (fun v22 => some v22) v20) (fun v15 => some v15) v13) (fun v8 => some v8) v6)
theorem r12Same_ok (a : Table) (b : Table) (r : Bool) (h : r12Same a b = some r) : PCalls Tryz.prog 15 [encTable a, encTable b] (B r) := by
 unfold r12Same at h
 refine xe 87 Tryz.func15 ?_
 refine xsr ?_
 refine xa ?_
 refine xa ?_
 refine xp ?_
 refine xq ?_
 refine vc_seq ?_
 refine vc_seq ?_
 refine xk [] [(2, .d (.ptr [.list 4 (a.uses.map encUse), .list 5 (a.grants.map encGrant), .list 3 (a.asks.map encAsk)])), (3, .d (.ptr [.list 4 (b.uses.map encUse), .list 5 (b.grants.map encGrant), .list 3 (b.asks.map encAsk)]))] .nil ⟨.z (.own' rfl (.cons .d (.cons .d (.cons .d .nil)))) .refl, .z (.own' rfl (.cons .d (.cons .d (.cons .d .nil)))) .refl, trivial⟩ ?_
 refine vc_midQ [(2, .d (.ptr [.list 4 (a.uses.map encUse), .list 5 (a.grants.map encGrant), .list 3 (a.asks.map encAsk)])), (3, .d (.ptr [.list 4 (b.uses.map encUse), .list 5 (b.grants.map encGrant), .list 3 (b.asks.map encAsk)])), (32, .d (B (((a.uses.length : Int) != (b.uses.length : Int)) || (((a.grants.length : Int) != (b.grants.length : Int)) || ((a.asks.length : Int) != (b.asks.length : Int))))))] [] ?_ ?_
 ·refine xr ?_
  iterate 2 refine xp ?_
  refine xl ?_
  iterate 2 refine xp ?_
  refine xl ?_
  iterate 2 refine xp ?_
  cases c1 : ((a.uses.length : Int) != (b.uses.length : Int)) with
  | true =>
   iterate 7 refine xs ?_
   iterate 2 refine xp ?_
   iterate 7 refine xs ?_
   refine xp ?_
   refine xq ?_
   exact xm [] .nil (xh3 trivial)
  | false =>
   iterate 2 refine xp ?_
   refine xl ?_
   iterate 2 refine xp ?_
   refine xl ?_
   iterate 3 refine xp ?_
   cases c2 : ((a.grants.length : Int) != (b.grants.length : Int)) with
   | true =>
    iterate 7 refine xs ?_
    refine xp ?_
    refine xq ?_
    exact xm [] .nil (xh3 trivial)
   | false =>
    iterate 2 refine xp ?_
    refine xl ?_
    iterate 2 refine xp ?_
    refine xl ?_
    iterate 2 refine xp ?_
    refine xq ?_
    exact xm [] .nil (xh3 trivial)
 ·cases c3 : (((a.uses.length : Int) != (b.uses.length : Int)) || (((a.grants.length : Int) != (b.grants.length : Int)) || ((a.asks.length : Int) != (b.asks.length : Int)))) with
  | true =>
   have h := cT c3 h
   refine vc_condT rfl ?_
   refine xsr ?_
   refine xp ?_
   refine xq ?_
   replace h := Option.some.inj h
   refine vc_ret ⟨.inr rfl, [B false], (.cons rfl ⟨_, .d, .refl⟩ .nil), ?_⟩
   first | (rw [← h]; done) | (rw [← h]; rfl) | (rw [← h]; simp)
  | false =>
   have h := cF c3 h
   refine vc_condF rfl ?_
   refine vc_skip ?_
   refine vc_seq ?_
   refine xsr ?_
   refine xp ?_
   refine xq ?_
   obtain ⟨v6, hv6, hLv6⟩ := bindO h
   refine vc_mid2 v6 (fun v7 => [(2, .d (.ptr [.list 4 (a.uses.map encUse), .list 5 (a.grants.map encGrant), .list 3 (a.asks.map encAsk)])), (3, .d (.ptr [.list 4 (b.uses.map encUse), .list 5 (b.grants.map encGrant), .list 3 (b.asks.map encAsk)]))]) (fun v7 => []) ?_ ?_
   ·refine vc_block ?_
    refine vc_loop ?_
    refine xK [] [(2, .d (.ptr [.list 4 (a.uses.map encUse), .list 5 (a.grants.map encGrant), .list 3 (a.asks.map encAsk)])), (3, .d (.ptr [.list 4 (b.uses.map encUse), .list 5 (b.grants.map encGrant), .list 3 (b.asks.map encAsk)])), (5, .d (I 0))] .nil (xh3 trivial) ?_
    refine vcl_lenS 2 rfl (.ptr 0 rfl .here) (fun hlen => ?_)
    replace hlen := len_map hlen
    refine vcl_rec a.uses (fun (pre l : List Use) (s : Unit) => r12Same_L1 b l (pre.length : Int)) (some v6) (fun pre s => envOf [(2, .d (.ptr [.list 4 (a.uses.map encUse), .list 5 (a.grants.map encGrant), .list 3 (a.asks.map encAsk)])), (3, .d (.ptr [.list 4 (b.uses.map encUse), .list 5 (b.grants.map encGrant), .list 3 (b.asks.map encAsk)])), (5, .d (I (pre.length : Int)))]) (fun pre s => []) ?step1 ?done1 () hv6
    case step1 =>
     rintro pre x5 l _ hpre hlt h ih
     have hprex5 := hpre
     replace h : r12Same_L1 b (x5 :: l) (pre.length : Int) = some v6 := h
     show VCL _ _ _ _ _ (envOf _) []
     obtain ⟨i4, hi⟩ : ∃ i : Int, i = (pre.length : Int) := ⟨_, rfl⟩
     have hix5 := hi
     rw [← hi] at h ⊢
     rw [r12Same_L1] at h
     refine vcl_unroll ?_
     refine vc_seq ?_
     refine xsr ?_
     iterate 3 refine xp ?_
     refine xl ?_
     refine xp ?_
     refine xq ?_
     refine vc_cond rfl (fun _ => ?_) (fun hf => absurd hf (by simp; omega))
     refine vc_skip ?_
     refine vc_seq ?_
     refine vc_block ?_
     refine xsd ?_
     iterate 3 refine xp ?_
     refine ri rfl rfl rfl rfl rfl rfl rfl (by omega) (by rw [hix5]; exact idxp hprex5) ?_
     iterate 4 refine xp ?_
     obtain ⟨v9, hv9, h⟩ := bindO h
     refine ri rfl rfl rfl rfl rfl rfl rfl (elt0 hv9) (eltm _ hv9) ?_
     iterate 2 refine xp ?_
     refine xq ?_
     cases c10 : (((x5.cell.slot == v9.cell.slot) && ((x5.cell.offset == v9.cell.offset) && true)) && ((x5.peer == v9.peer) && ((x5.stamp == v9.stamp) && true))) with
     | true =>
      have h := cT c10 h
      refine vc_condF rfl ?_
      refine vc_skip ?_
      refine xr ?_
      iterate 3 refine xp ?_
      refine xq ?_
      exact xv [] (ih () (by show r12Same_L1 b _ (((pre ++ [x5]).length : Nat) : Int) = _; rw [cnt1, ← hi]; exact h)) .nil (xh2 ⟨.e rfl (cntI hi hlt hlen), trivial⟩)
     | false =>
      have h := cF c10 h
      refine vc_condT rfl ?_
      refine xsr ?_
      refine xp ?_
      refine xq ?_
      cases h
      have h := sumR hLv6
      replace h := Option.some.inj h
      refine vc_ret ⟨.inr rfl, [B false], (.cons rfl ⟨_, .d, .refl⟩ .nil), ?_⟩
      first | (rw [← h]; done) | (rw [← h]; rfl) | (rw [← h]; simp)
    case done1 =>
     rintro _ h
     replace h : r12Same_L1 b [] (a.uses.length : Int) = some v6 := h
     rw [r12Same_L1] at h
     show VCL _ _ _ _ _ (envOf _) []
     refine vcl_unroll ?_
     refine vc_seq ?_
     refine xsr ?_
     iterate 3 refine xp ?_
     refine xl ?_
     refine xp ?_
     refine xq ?_
     refine vc_cond rfl (fun ht => absurd ht (by simp; try omega)) (fun _ => ?_)
     refine vc_exit ?_
     cases h
     exact xm [] .nil (xh2 trivial)
   ·rintro v7 rfl
    have h := sumL hLv6
    refine vc_seq ?_
    refine xsr ?_
    refine xp ?_
    refine xq ?_
    obtain ⟨v13, hv13, hLv13⟩ := bindO h
    refine vc_mid2 v13 (fun v14 => [(2, .d (.ptr [.list 4 (a.uses.map encUse), .list 5 (a.grants.map encGrant), .list 3 (a.asks.map encAsk)])), (3, .d (.ptr [.list 4 (b.uses.map encUse), .list 5 (b.grants.map encGrant), .list 3 (b.asks.map encAsk)]))]) (fun v14 => []) ?_ ?_
    ·refine vc_block ?_
     refine vc_loop ?_
     refine xK [] [(2, .d (.ptr [.list 4 (a.uses.map encUse), .list 5 (a.grants.map encGrant), .list 3 (a.asks.map encAsk)])), (3, .d (.ptr [.list 4 (b.uses.map encUse), .list 5 (b.grants.map encGrant), .list 3 (b.asks.map encAsk)])), (6, .d (I 0))] .nil (xh3 trivial) ?_
     refine vcl_lenS 2 rfl (.ptr 1 rfl .here) (fun hlen => ?_)
     replace hlen := len_map hlen
     refine vcl_rec a.grants (fun (pre l : List Grant) (s : Unit) => r12Same_L2 b l (pre.length : Int)) (some v13) (fun pre s => envOf [(2, .d (.ptr [.list 4 (a.uses.map encUse), .list 5 (a.grants.map encGrant), .list 3 (a.asks.map encAsk)])), (3, .d (.ptr [.list 4 (b.uses.map encUse), .list 5 (b.grants.map encGrant), .list 3 (b.asks.map encAsk)])), (6, .d (I (pre.length : Int)))]) (fun pre s => []) ?step2 ?done2 () hv13
     case step2 =>
      rintro pre x12 l _ hpre hlt h ih
      have hprex12 := hpre
      replace h : r12Same_L2 b (x12 :: l) (pre.length : Int) = some v13 := h
      show VCL _ _ _ _ _ (envOf _) []
      obtain ⟨i11, hi⟩ : ∃ i : Int, i = (pre.length : Int) := ⟨_, rfl⟩
      have hix12 := hi
      rw [← hi] at h ⊢
      rw [r12Same_L2] at h
      refine vcl_unroll ?_
      refine vc_seq ?_
      refine xsr ?_
      iterate 3 refine xp ?_
      refine xl ?_
      refine xp ?_
      refine xq ?_
      refine vc_cond rfl (fun _ => ?_) (fun hf => absurd hf (by simp; omega))
      refine vc_skip ?_
      refine vc_seq ?_
      refine vc_block ?_
      refine xsd ?_
      iterate 3 refine xp ?_
      refine ri rfl rfl rfl rfl rfl rfl rfl (by omega) (by rw [hix12]; exact idxp hprex12) ?_
      iterate 4 refine xp ?_
      obtain ⟨v16, hv16, h⟩ := bindO h
      refine ri rfl rfl rfl rfl rfl rfl rfl (elt0 hv16) (eltm _ hv16) ?_
      iterate 2 refine xp ?_
      refine xq ?_
      cases c17 : (((x12.cell.slot == v16.cell.slot) && ((x12.cell.offset == v16.cell.offset) && true)) && ((x12.peer == v16.peer) && ((x12.stamp == v16.stamp) && ((x12.til == v16.til) && true)))) with
      | true =>
       have h := cT c17 h
       refine vc_condF rfl ?_
       refine vc_skip ?_
       refine xr ?_
       iterate 3 refine xp ?_
       refine xq ?_
       exact xv [] (ih () (by show r12Same_L2 b _ (((pre ++ [x12]).length : Nat) : Int) = _; rw [cnt1, ← hi]; exact h)) .nil (xh2 ⟨.e rfl (cntI hi hlt hlen), trivial⟩)
      | false =>
       have h := cF c17 h
       refine vc_condT rfl ?_
       refine xsr ?_
       refine xp ?_
       refine xq ?_
       cases h
       have h := sumR hLv13
       replace h := Option.some.inj h
       refine vc_ret ⟨.inr rfl, [B false], (.cons rfl ⟨_, .d, .refl⟩ .nil), ?_⟩
       first | (rw [← h]; done) | (rw [← h]; rfl) | (rw [← h]; simp)
     case done2 =>
      rintro _ h
      replace h : r12Same_L2 b [] (a.grants.length : Int) = some v13 := h
      rw [r12Same_L2] at h
      show VCL _ _ _ _ _ (envOf _) []
      refine vcl_unroll ?_
      refine vc_seq ?_
      refine xsr ?_
      iterate 3 refine xp ?_
      refine xl ?_
      refine xp ?_
      refine xq ?_
      refine vc_cond rfl (fun ht => absurd ht (by simp; try omega)) (fun _ => ?_)
      refine vc_exit ?_
      cases h
      exact xm [] .nil (xh2 trivial)
    ·rintro v14 rfl
     have h := sumL hLv13
     refine vc_seq ?_
     refine xsr ?_
     refine xp ?_
     refine xq ?_
     obtain ⟨v20, hv20, hLv20⟩ := bindO h
     refine vc_mid2 v20 (fun v21 => []) (fun v21 => []) ?_ ?_
     ·refine vc_block ?_
      refine vc_loop ?_
      refine xK [] [(2, .d (.ptr [.list 4 (a.uses.map encUse), .list 5 (a.grants.map encGrant), .list 3 (a.asks.map encAsk)])), (3, .d (.ptr [.list 4 (b.uses.map encUse), .list 5 (b.grants.map encGrant), .list 3 (b.asks.map encAsk)])), (7, .d (I 0))] .nil (xh3 trivial) ?_
      refine vcl_lenS 2 rfl (.ptr 2 rfl .here) (fun hlen => ?_)
      replace hlen := len_map hlen
      refine vcl_rec a.asks (fun (pre l : List Ask) (s : Unit) => r12Same_L3 b l (pre.length : Int)) (some v20) (fun pre s => envOf [(2, .d (.ptr [.list 4 (a.uses.map encUse), .list 5 (a.grants.map encGrant), .list 3 (a.asks.map encAsk)])), (3, .d (.ptr [.list 4 (b.uses.map encUse), .list 5 (b.grants.map encGrant), .list 3 (b.asks.map encAsk)])), (7, .d (I (pre.length : Int)))]) (fun pre s => []) ?step3 ?done3 () hv20
      case step3 =>
       rintro pre x19 l _ hpre hlt h ih
       have hprex19 := hpre
       replace h : r12Same_L3 b (x19 :: l) (pre.length : Int) = some v20 := h
       show VCL _ _ _ _ _ (envOf _) []
       obtain ⟨i18, hi⟩ : ∃ i : Int, i = (pre.length : Int) := ⟨_, rfl⟩
       have hix19 := hi
       rw [← hi] at h ⊢
       rw [r12Same_L3] at h
       refine vcl_unroll ?_
       refine vc_seq ?_
       refine xsr ?_
       iterate 3 refine xp ?_
       refine xl ?_
       refine xp ?_
       refine xq ?_
       refine vc_cond rfl (fun _ => ?_) (fun hf => absurd hf (by simp; omega))
       refine vc_skip ?_
       refine vc_seq ?_
       refine vc_block ?_
       refine xsd ?_
       iterate 3 refine xp ?_
       refine ri rfl rfl rfl rfl rfl rfl rfl (by omega) (by rw [hix19]; exact idxp hprex19) ?_
       iterate 4 refine xp ?_
       obtain ⟨v23, hv23, h⟩ := bindO h
       refine ri rfl rfl rfl rfl rfl rfl rfl (elt0 hv23) (eltm _ hv23) ?_
       iterate 2 refine xp ?_
       refine xq ?_
       cases c24 : (((x19.cell.slot == v23.cell.slot) && ((x19.cell.offset == v23.cell.offset) && true)) && ((x19.peer == v23.peer) && true)) with
       | true =>
        have h := cT c24 h
        refine vc_condF rfl ?_
        refine vc_skip ?_
        refine xr ?_
        iterate 3 refine xp ?_
        refine xq ?_
        exact xv [] (ih () (by show r12Same_L3 b _ (((pre ++ [x19]).length : Nat) : Int) = _; rw [cnt1, ← hi]; exact h)) .nil (xh2 ⟨.e rfl (cntI hi hlt hlen), trivial⟩)
       | false =>
        have h := cF c24 h
        refine vc_condT rfl ?_
        refine xsr ?_
        refine xp ?_
        refine xq ?_
        cases h
        have h := sumR hLv20
        replace h := Option.some.inj h
        refine vc_ret ⟨.inr rfl, [B false], (.cons rfl ⟨_, .d, .refl⟩ .nil), ?_⟩
        first | (rw [← h]; done) | (rw [← h]; rfl) | (rw [← h]; simp)
      case done3 =>
       rintro _ h
       replace h : r12Same_L3 b [] (a.asks.length : Int) = some v20 := h
       rw [r12Same_L3] at h
       show VCL _ _ _ _ _ (envOf _) []
       refine vcl_unroll ?_
       refine vc_seq ?_
       refine xsr ?_
       iterate 3 refine xp ?_
       refine xl ?_
       refine xp ?_
       refine xq ?_
       refine vc_cond rfl (fun ht => absurd ht (by simp; try omega)) (fun _ => ?_)
       refine vc_exit ?_
       cases h
       exact xm [] .nil trivial
     ·rintro v21 rfl
      have h := sumL hLv20
      refine xsr ?_
      refine xp ?_
      refine xq ?_
      replace h := Option.some.inj h
      refine vc_ret ⟨.inr rfl, [B true], (.cons rfl ⟨_, .d, .refl⟩ .nil), ?_⟩
      first | (rw [← h]; done) | (rw [← h]; rfl) | (rw [← h]; simp)
end Go.VM.Tryz
