/-
  Proved: BargainMatchesReferenceUptoSaid, for every input whose bulk is at most 1048576 values; no further condition. (This text is one part of the proof.)
-/
import Derived.Test.YthegffpdongaoaaGreatV05
import Derived.KernelRfl
import Derived.Test.YthegffpdongaoaaGreatV00
import Derived.Carry
import Derived.ChangeArms
import Derived.ChangeSame
import Derived.RowKit
import Derived.Deep.Slices
import Derived.OpenShut
import Derived.Test.YthegffpdongaoaaGreatRows
import Derived.JoinedCond
namespace Go.VM.Tryz
def mineC (l : Layout) (me frame : Int) (g : Grant) : Bool := isGrant g l && (g.peer == me && decide (g.til ≥ frame))
def grantedC (l : Layout) (near : List Near) (peer : Int) (c : Cell) (me frame : Int) : Option Grant := (findN near peer).bind fun n => n.t.grants.find? fun g => mineC l me frame g && cellEq g.cell c
def keepUse (l : Layout) (me : Int) (near : List Near) (frame : Int) (u : Use) : Option Use := (grantedC l near u.peer u.cell me frame).map fun g => ⟨u.cell, u.peer, g.stamp⟩
def partnerB (t : Table) (p : Int) : Bool := t.uses.any (fun x => x.peer == p) || t.asks.any fun x => x.peer == p
noncomputable def tStep (l : Layout) (me frame : Int) (n : Near) (t : Table) (g : Grant) : Table := cond (mineC l me frame g) (addTUse l t ⟨g.cell, n.src, g.stamp⟩) t
noncomputable def tNear (l : Layout) (t0 : Table) (me frame : Int) (t : Table) (n : Near) : Table := cond (partnerB t0 n.src) (n.t.grants.foldl (tStep l me frame n) t) t
def keptT (l : Layout) (t : Table) (me : Int) (near : List Near) (frame : Int) : Table := ⟨t.uses.filterMap (keepUse l me near frame), t.grants, t.asks⟩
noncomputable def takeT (l : Layout) (t : Table) (me : Int) (near : List Near) (frame : Int) : Table := near.foldl (tNear l t me frame) (keptT l t me near frame)
theorem mine_eq (l : Layout) (g : Grant) (me frame : Int) : mine l g me frame = mineC l me frame g := rfl
theorem r13Granted_eq (l : Layout) (near : List Near) (peer : Int) (c : Cell) (me frame : Int) : r13Granted l near peer c me frame = some (match grantedC l near peer c me frame with | some g => (g, true) | none => (⟨⟨0, 0⟩, 0, 0, 0⟩, false)) := by
 have key : ∀ gs : List Grant, r13Granted_L1 l c me frame gs = some (match gs.find? fun g => mineC l me frame g && cellEq g.cell c with | some g => .inr (g, true) | none => .inl ()) := by
  intro gs
  induction gs with
  | nil => rfl
  | cons x gs ih =>
   simp only [r13Granted_L1, ih, List.find?_cons]
   show cond (mineC l me frame x && cellEq x.cell c) _ _ = _
   cases (mineC l me frame x && cellEq x.cell c) <;> rfl
 unfold r13Granted grantedC
 rw [r13at]
 cases findN near peer with
 | none => rfl
 | some n =>
  simp only [key, Option.bind_some]
  cases n.t.grants.find? fun g => mineC l me frame g && cellEq g.cell c <;> rfl
theorem r13Take_L1_eq (l : Layout) (me : Int) (near : List Near) (frame : Int) : ∀ us acc : List Use, acc.length + us.length ≤ 1000 → r13Take_L1 l me near frame us acc = some (acc ++ us.filterMap (keepUse l me near frame))
 | [], acc, _ => by simp [r13Take_L1]
 | u :: us, acc, h => by
  simp only [List.length_cons] at h
  have h1 : decide (acc.length + 1 ≤ 4294967296) = true := by simp; omega
  simp only [r13Take_L1, r13Granted_eq, Option.bind_some, h1, cond_true, List.filterMap_cons, keepUse]
  cases hg : grantedC l near u.peer u.cell me frame with
  | none => simp only [cond_false, Option.bind_some, Option.map_none]; exact r13Take_L1_eq l me near frame us acc (by omega)
  | some g => simp only [cond_true, Option.bind_some, Option.map_some]; rw [r13Take_L1_eq l me near frame us _ (by simp; omega)]; simp
theorem tStep_mid {l : Layout} {me frame : Int} {n : Near} {t : Table} {g : Grant} (h : Mid t) : Mid (tStep l me frame n t g) := by
 unfold tStep
 cases mineC l me frame g with
 | false => exact h
 | true => exact addTUse_mid h
theorem tFold_mid {l : Layout} {me frame : Int} {n : Near} : ∀ {gs : List Grant} {t : Table}, Mid t → Mid (gs.foldl (tStep l me frame n) t)
 | [], _, h => h
 | g :: gs, t, h => tFold_mid (gs := gs) (t := tStep l me frame n t g) (tStep_mid h)
theorem tNear_mid {l : Layout} {t0 : Table} {me frame : Int} {t : Table} {n : Near} (h : Mid t) : Mid (tNear l t0 me frame t n) := by
 unfold tNear
 cases partnerB t0 n.src with
 | false => exact h
 | true => exact tFold_mid h
theorem r13Take_L3_eq (l : Layout) (t0 : Table) (me frame : Int) {n : Near} (hw : partnerB t0 n.src = true) (hl : n.t.grants.length ≤ 1000) : ∀ (fuel : Nat) (pre post : List Grant) (t : Table), n.t.grants = pre ++ post → post.length < fuel → Mid t →
  r13Take_L3 l t0 me frame n fuel pre.length t.uses t.grants t.asks = some ((n.t.grants.length : Int), (post.foldl (tStep l me frame n) t).uses, (post.foldl (tStep l me frame n) t).grants, (post.foldl (tStep l me frame n) t).asks)
 | 0, _, _, _, _, h, _ => by omega
 | fuel + 1, pre, [], t, hp, _, _ => by
  have e : (pre.length : Int) = (n.t.grants.length : Int) := by rw [hp]; simp
  have h1 : decide ((pre.length : Int) < (n.t.grants.length : Int)) = false := by simp; omega
  simp only [r13Take_L3, h1, Bool.false_and, cond_false, List.foldl_nil]; rw [e]
 | fuel + 1, pre, g :: post, t, hp, hf, hm => by
  have hlen := congrArg List.length hp
  simp only [List.length_append, List.length_cons] at hlen hf
  have h1 : decide ((pre.length : Int) < (n.t.grants.length : Int)) = true := by simp; omega
  have h2 : elt n.t.grants (pre.length : Int) = some g := by rw [elt_nat, hp]; simp
  have e1 : IntKind.i64.wrap ((pre.length : Int) + 1) = ((pre ++ [g]).length : Int) := by rw [wr (by omega) (by omega)]; simp
  have ih := fun t hm => r13Take_L3_eq l t0 me frame hw hl fuel (pre ++ [g]) post t (by simp [hp]) (by omega) hm
  have hw' : r13partner t0 n.src = true := by rw [r13partner_eq]; exact hw
  simp only [r13Take_L3, h1, hw', Bool.and_self, cond_true, h2, Option.bind_some, e1, List.foldl_cons, mine_eq]
  unfold tStep
  cases hmi : mineC l me frame g with
  | false => exact ih t hm
  | true =>
   rw [r12AddUse_eq (t := ⟨t.uses, t.grants, t.asks⟩) (by exact hm)]
   simp only [cond_true, Option.bind_some]
   have ih2 := ih (addTUse l t ⟨g.cell, n.src, g.stamp⟩) (addTUse_mid hm)
   unfold addTUse at ih2 ⊢
   show r13Take_L3 l t0 me frame n fuel _ (cond ((cond (codeTUse l t ⟨g.cell, n.src, g.stamp⟩ == 0) (putTUse t ⟨g.cell, n.src, g.stamp⟩, 0) (⟨[], [], []⟩, codeTUse l t ⟨g.cell, n.src, g.stamp⟩)).2 == 0) _ _) _ _ = _
   cases hc : codeTUse l t ⟨g.cell, n.src, g.stamp⟩ == 0 with
   | true => rw [hc] at ih2; exact ih2
   | false =>
    rw [hc] at ih2
    simp only [cond_false, hc]
    exact ih2
theorem r13Take_L2_eq (l : Layout) (t0 : Table) (me frame : Int) (fuel : Nat) (hfu : 41 ≤ fuel) : ∀ (xs : List Near) (t : Table), (∀ n ∈ xs, n.t.grants.length ≤ 40) → Mid t →
  r13Take_L2 fuel l t0 me frame xs t.uses t.grants t.asks = some ((xs.foldl (tNear l t0 me frame) t).uses, (xs.foldl (tNear l t0 me frame) t).grants, (xs.foldl (tNear l t0 me frame) t).asks)
 | [], t, _, _ => rfl
 | n :: xs, t, hs, hm => by
  have hl := hs n (by simp)
  have ih := r13Take_L2_eq l t0 me frame fuel hfu xs (tNear l t0 me frame t n) (fun m hm => hs m (List.mem_cons_of_mem _ hm)) (tNear_mid hm)
  simp only [r13Take_L2, List.foldl_cons]
  cases hh : partnerB t0 n.src with
  | true =>
   have h := r13Take_L3_eq l t0 me frame hh (by omega) fuel [] n.t.grants t rfl (by omega) hm
   have h : r13Take_L3 l t0 me frame n fuel 0 t.uses t.grants t.asks = _ := h
   rw [h]
   unfold tNear at ih ⊢
   rw [hh] at ih ⊢
   exact ih
  | false =>
   obtain ⟨k, rfl⟩ : ∃ k, fuel = k + 1 := ⟨fuel - 1, by omega⟩
   have hw' : r13partner t0 n.src = false := by rw [r13partner_eq]; exact hh
   have h : r13Take_L3 l t0 me frame n (k + 1) 0 t.uses t.grants t.asks = some (0, t.uses, t.grants, t.asks) := by
    simp only [r13Take_L3, hw', Bool.and_false, cond_false]
   rw [h]
   unfold tNear at ih ⊢
   rw [hh] at ih ⊢
   exact ih
theorem keptT_mid {l : Layout} {t : Table} {me : Int} {near : List Near} {frame : Int} (h : Mid t) : Mid (keptT l t me near frame) := by
 have hf := List.length_filterMap_le (keepUse l me near frame) t.uses
 have := h.u
 exact ⟨by simp only [keptT]; omega, h.g, h.a⟩
theorem r13Take_eq (fuel : Nat) (hfu : 41 ≤ fuel) (l : Layout) (t : Table) (me : Int) (near : List Near) (frame : Int) (hm : Mid t) (hn : Few near) :
  r13Take fuel l t me near frame = some (cond (validA l t me near frame) (takeT l t me near frame) t) := by
 have hu := hm.u; have hg := hm.g; have ha := hm.a; have hl := hn.1
 unfold r13Take
 rw [r13Valid_eq l t me near frame (by omega) (by omega) (by omega) (by omega)]
 simp only [Option.bind_some]
 cases hv : validA l t me near frame with
 | false => rfl
 | true =>
  rw [r13Take_L1_eq l me near frame _ [] (by simp only [List.length_nil]; omega)]
  have h := r13Take_L2_eq l t me frame fuel hfu near (keptT l t me near frame) (fun n h => (hn.2 n h).2.1) (keptT_mid hm)
  simp only [Option.bind_some, List.nil_append, cond_true]
  have h : r13Take_L2 fuel l t me frame near (t.uses.filterMap (keepUse l me near frame)) t.grants t.asks = _ := h
  rw [h]; rfl
theorem mget_put (k n : Int) : ∀ m : List (Int × Bool), mgetT k false (mputT n true m) = (mgetT k false m || n == k) := by
 intro m
 unfold mgetT mputT
 cases hf : m.findIdx? (fun y => y.1 == n) with
 | none =>
  simp only [List.findIdx?_append]
  cases hk : m.findIdx? (fun y => y.1 == k) with
  | none =>
   simp only [Option.none_or, List.findIdx?_cons, List.findIdx?_nil, Option.map_none]
   cases hkn : n == k with
   | true => simp [hkn]
   | false => simp [hkn]
  | some j =>
   obtain ⟨hj, hp, _⟩ := List.findIdx?_eq_some_iff_getElem.1 hk
   simp only [Option.some_or, List.getElem?_append_left hj]
   cases hkn : n == k with
   | false => simp
   | true =>
    rw [beq_iff_eq] at hkn
    rw [List.findIdx?_eq_none_iff] at hf
    have := hf _ (List.getElem_mem hj)
    rw [hkn, hp] at this; cases this
 | some j =>
  obtain ⟨hj, hp, hb⟩ := List.findIdx?_eq_some_iff_getElem.1 hf
  rw [beq_iff_eq] at hp
  have e : (m.set j (n, true)).map (·.1) = m.map (·.1) := by
   rw [List.map_set]
   refine List.ext_getElem (by simp) fun i h1 h2 => ?_
   rw [List.getElem_set]
   by_cases hij : j = i
   ·subst hij; simp [hp]
   ·rw [if_neg hij]
  have e2 : ∀ q : List (Int × Bool), q.findIdx? (fun y => y.1 == k) = (q.map (·.1)).findIdx? (· == k) := fun q => by rw [List.findIdx?_map]; rfl
  simp only
  rw [e2 (m.set j (n, true)), e, ← e2]
  cases hk : m.findIdx? (fun y => y.1 == k) with
  | none =>
   have hne : (n == k) = false := by
    rw [List.findIdx?_eq_none_iff] at hk
    have := hk _ (List.getElem_mem hj)
    rw [hp] at this; exact this
   simp [hne]
  | some i =>
   obtain ⟨hi, hpi, _⟩ := List.findIdx?_eq_some_iff_getElem.1 hk
   rw [beq_iff_eq] at hpi
   simp only [List.getElem?_set, List.getElem?_eq_getElem hi]
   by_cases hij : j = i
   ·subst hij
    have : (n == k) = true := by rw [beq_iff_eq, ← hp, ← hpi]
    simp [this, hj]
   ·have : (n == k) = false := by
     rw [beq_eq_false_iff_ne]
     rintro rfl
     rw [hf] at hk; cases hk; exact hij rfl
    simp [this, hij]
theorem kBTake_L1_eq (k : Int) : ∀ (xs : List Ask) (m : List (Int × Bool)), ∃ m', kBTake_L1 xs m = some m' ∧ mgetT k false m' = (mgetT k false m || xs.any fun x => x.peer == k)
 | [], m => ⟨m, rfl, by simp⟩
 | x :: xs, m => by
  obtain ⟨m', h1, h2⟩ := kBTake_L1_eq k xs (mputT x.peer true m)
  exact ⟨m', h1, by rw [h2, mget_put, List.any_cons, Bool.or_assoc]⟩
theorem kBGranted_eq (l : Layout) (me : Int) (near : List Near) (frame : Int) (n : Near) (h : n.t.grants.length ≤ 1000) : kBGranted (sideOf l me near frame) (cleanN l n) = some (n.t.grants.filter (mineC l me frame)) := by
 unfold kBGranted
 have hf := List.length_filter_le (fun x => isGrant x l) n.t.grants
 rw [show (fun y0 => some (f106 y0 (sideOf l me near frame))) = fun g : Grant => some (g.peer == me && decide (g.til ≥ frame)) from rfl, f77_eq _ _ (by show (n.t.grants.filter fun x => isGrant x l).length ≤ _; omega)]
 simp only [Option.bind_some, cleanN, List.filter_filter]
 congr 2
 funext g
 exact Bool.and_comm _ _
theorem elt_idx {α : Type} {p : α → Bool} {l : List α} : (match l.find? p with | none => decide (idx p l ≥ 0) = false | some x => decide (idx p l ≥ 0) = true ∧ elt l (idx p l) = some x) := by
 by_cases h : idx p l < 0
 ·rw [find_idx.1 h]; simp; omega
 ·obtain ⟨x, h1, h2⟩ := find_idx.2 h
  rw [h2]
  have h0 : 0 ≤ idx p l := by omega
  exact ⟨by simpa using h0, by simp [elt, h0, h1]⟩
theorem kBTake_L2_eq (l : Layout) (me : Int) {near : List Near} (hn : Few near) (frame : Int) (k : Int) : ∀ (us : List Use) (m : List (Int × Bool)) (acc : List Use), acc.length + us.length ≤ 1000 →
  ∃ m', kBTake_L2 (sideOf l me near frame) us m acc = some (m', acc ++ us.filterMap (keepUse l me near frame)) ∧ mgetT k false m' = (mgetT k false m || us.any fun x => x.peer == k)
 | [], m, acc, _ => ⟨m, by simp [kBTake_L2], by simp⟩
 | u :: us, m, acc, h => by
  simp only [List.length_cons] at h
  have h1 : decide (acc.length + 1 ≤ 4294967296) = true := by simp; omega
  have fin : ∀ acc' : List Use, acc'.length ≤ acc.length + 1 → acc' = acc ++ [u].filterMap (keepUse l me near frame) → ∃ m', kBTake_L2 (sideOf l me near frame) us (mputT u.peer true m) acc' = some (m', acc ++ (u :: us).filterMap (keepUse l me near frame)) ∧ mgetT k false m' = (mgetT k false m || (u :: us).any fun x => x.peer == k) := by
   intro acc' hl e
   obtain ⟨m', h2, h3⟩ := kBTake_L2_eq l me hn frame k us (mputT u.peer true m) acc' (by omega)
   refine ⟨m', by rw [h2, e, List.append_assoc, ← List.filterMap_append]; rfl, by rw [h3, mget_put, List.any_cons, Bool.or_assoc]⟩
  simp only [kBTake_L2, kBFind_eq, Option.bind_some]
  rw [show (sideOf l me near frame).near = near.map (cleanN l) from rfl, findN_clean]
  have ef : (fun y0 => some (f55 y0 ⟨⟨u.cell.slot, u.cell.offset⟩, u.peer, u.stamp⟩)) = fun g : Grant => some (cellEq g.cell u.cell) := rfl
  rw [ef]
  have e0 : ∀ gs : List Grant, (∀ x, x = (gs.find? fun g => cellEq g.cell u.cell) → (x.map fun g => (⟨u.cell, u.peer, g.stamp⟩ : Use)) = keepUse l me near frame u) → ∃ m', (Option.bind (Option.bind (some (idx (fun g : Grant => cellEq g.cell u.cell) gs)) fun v15 => Option.bind (cond (decide (v15 ≥ 0)) (Option.bind (elt gs v15) fun v18 => cond (decide (acc.length + 1 ≤ 4294967296)) (some (acc ++ ([⟨⟨u.cell.slot, u.cell.offset⟩, u.peer, v18.stamp⟩] : List Use))) none) (some acc)) fun v16 => kBTake_L2 (sideOf l me near frame) us (mputT u.peer true m) v16) some) = some (m', acc ++ (u :: us).filterMap (keepUse l me near frame)) ∧ mgetT k false m' = (mgetT k false m || (u :: us).any fun x => x.peer == k) := by
   intro gs hx
   have hi := elt_idx (p := fun g : Grant => cellEq g.cell u.cell) (l := gs)
   have hx := hx _ rfl
   simp only [Option.bind_some, h1, cond_true]
   cases hf : gs.find? fun g => cellEq g.cell u.cell with
   | none =>
    rw [hf] at hi hx
    simp only [hi, cond_false, Option.bind_some]
    obtain ⟨m', h2, h3⟩ := fin acc (by omega) (by rw [List.filterMap_cons, ← hx]; simp)
    exact ⟨m', by rw [h2]; rfl, h3⟩
   | some g =>
    rw [hf] at hi hx
    simp only [hi.1, hi.2, cond_true, Option.bind_some]
    obtain ⟨m', h2, h3⟩ := fin (acc ++ [⟨u.cell, u.peer, g.stamp⟩]) (by simp) (by rw [List.filterMap_cons, ← hx]; simp)
    exact ⟨m', by rw [h2]; rfl, h3⟩
  have bid : ∀ o : Option (List (Int × Bool) × List Use), Option.bind o some = o := fun o => by cases o <;> rfl
  cases hfn : findN near u.peer with
  | none =>
   simp only [Option.map_none]
   have hg : kBGranted (sideOf l me near frame) zeroN = some [] := rfl
   rw [hg]
   simp only [Option.bind_some, f54_eq]
   obtain ⟨m', h2, h3⟩ := e0 [] (fun x hx => by rw [hx]; unfold keepUse grantedC; rw [hfn]; rfl)
   rw [bid] at h2
   exact ⟨m', h2, h3⟩
  | some n =>
   simp only [Option.map_some]
   have hl := hn.2 n (findN_mem hfn).1
   rw [kBGranted_eq l me near frame n (by omega)]
   simp only [Option.bind_some, f54_eq]
   obtain ⟨m', h2, h3⟩ := e0 (n.t.grants.filter (mineC l me frame)) (fun x hx => by rw [hx]; unfold keepUse grantedC; rw [hfn, List.find?_filter]; simp only [Option.bind_some, Bool.decide_and, Bool.decide_eq_true])
   rw [bid] at h2
   exact ⟨m', h2, h3⟩
theorem kBTake_L4_eq (l : Layout) (me frame : Int) (n : Near) : ∀ (gs : List Grant) (t : Table), Mid t →
  kBTake_L4 l (cleanN l n) (gs.filter (mineC l me frame)) t.uses t.grants t.asks = some ((gs.foldl (tStep l me frame n) t).uses, (gs.foldl (tStep l me frame n) t).grants, (gs.foldl (tStep l me frame n) t).asks)
 | [], t, _ => rfl
 | g :: gs, t, hm => by
  have ih := fun t hm => kBTake_L4_eq l me frame n gs t hm
  simp only [List.filter_cons, List.foldl_cons]
  unfold tStep
  cases hi : mineC l me frame g with
  | false => simp only [Bool.false_eq_true, if_false, cond_false]; exact ih t hm
  | true =>
   simp only [if_true, kBTake_L4]
   rw [show (cleanN l n).src = n.src from rfl]
   rw [kCellsAddUse_eq (t := ⟨t.uses, t.grants, t.asks⟩) (by exact hm)]
   have ih2 := ih (addTUse l t ⟨g.cell, n.src, g.stamp⟩) (addTUse_mid hm)
   simp only [cond_true, Option.bind_some]
   unfold addTUse at ih2 ⊢
   show kBTake_L4 l (cleanN l n) _ (cond ((cond (codeTUse l t ⟨g.cell, n.src, g.stamp⟩ == 0) (putTUse t ⟨g.cell, n.src, g.stamp⟩, 0) (⟨[], [], []⟩, codeTUse l t ⟨g.cell, n.src, g.stamp⟩)).2 == 0) _ _) _ _ = _
   cases hc : codeTUse l t ⟨g.cell, n.src, g.stamp⟩ == 0 with
   | true => rw [hc] at ih2; exact ih2
   | false =>
    rw [hc] at ih2
    simp only [cond_false, hc]
    exact ih2
theorem kBTake_L3_eq (l : Layout) (t0 : Table) (me : Int) (near : List Near) (frame : Int) (mu : List (Int × Bool) × List Use) : ∀ (xs : List Near) (t : Table), (∀ n ∈ xs, n.t.grants.length ≤ 40 ∧ mgetT n.src false mu.1 = partnerB t0 n.src) → Mid t →
  kBTake_L3 l (sideOf l me near frame) mu (xs.map (cleanN l)) t.uses t.grants t.asks = some ((xs.foldl (tNear l t0 me frame) t).uses, (xs.foldl (tNear l t0 me frame) t).grants, (xs.foldl (tNear l t0 me frame) t).asks)
 | [], t, _, _ => rfl
 | n :: xs, t, hs, hm => by
  have hn := hs n (by simp)
  have ih := kBTake_L3_eq l t0 me near frame mu xs (tNear l t0 me frame t n) (fun m hm => hs m (List.mem_cons_of_mem _ hm)) (tNear_mid hm)
  simp only [List.map_cons, kBTake_L3, List.foldl_cons]
  rw [show (cleanN l n).src = n.src from rfl, hn.2, kBGranted_eq l me near frame n (by omega)]
  unfold tNear at ih ⊢
  cases hh : partnerB t0 n.src with
  | true =>
   rw [hh] at ih
   simp only [cond_true, Option.bind_some, kBTake_L4_eq l me frame n n.t.grants t hm]
   exact ih
  | false => rw [hh] at ih; exact ih
theorem kBTake_eq (l : Layout) (t : Table) (me : Int) (near : List Near) (frame : Int) (hm : Mid t) (hn : Few near) :
  kBTake l t me near frame = some (cond (validA l t me near frame) (takeT l t me near frame) t) := by
 have hu := hm.u; have hg := hm.g; have ha := hm.a
 unfold kBTake
 rw [kNewSide_eq l t me near frame (by omega) (by omega) (by omega) hn]
 simp only [Option.bind_some]
 cases hv : validA l t me near frame with
 | false => rfl
 | true =>
  obtain ⟨m1, h1, _⟩ := kBTake_L1_eq 0 t.asks []
  have g1 : ∀ k, mgetT k false m1 = t.asks.any fun x => x.peer == k := fun k => by
   obtain ⟨m', h2, h3⟩ := kBTake_L1_eq k t.asks []
   rw [h1] at h2; cases h2
   rw [h3]; rfl
  obtain ⟨m2, h2, _⟩ := kBTake_L2_eq l me hn frame 0 t.uses m1 [] (by simp only [List.length_nil]; omega)
  have g2 : ∀ k, mgetT k false m2 = partnerB t k := fun k => by
   obtain ⟨m', h3, h4⟩ := kBTake_L2_eq l me hn frame k t.uses m1 [] (by simp only [List.length_nil]; omega)
   rw [h2] at h3; cases h3
   rw [h4, g1, Bool.or_comm]; rfl
  have h := kBTake_L3_eq l t me near frame (m2, t.uses.filterMap (keepUse l me near frame)) near (keptT l t me near frame) (fun n h => ⟨(hn.2 n h).2.1, g2 _⟩) (keptT_mid hm)
  simp only [cond_true, h1, Option.bind_some, h2, List.nil_append]
  have h : kBTake_L3 l (sideOf l me near frame) (m2, t.uses.filterMap (keepUse l me near frame)) (sideOf l me near frame).near (t.uses.filterMap (keepUse l me near frame)) t.grants t.asks = _ := h
  rw [h]; rfl
end Go.VM.Tryz
namespace Go.VM.Tryz
theorem head_true : kLhead = some true := by kernel_rfl
theorem r13Few_L1_eq {near : List Near} : ∀ (fuel : Nat) (pre post : List Near), near = pre ++ post → (∀ n ∈ pre, n.t.uses.length ≤ 40 ∧ n.t.grants.length ≤ 40 ∧ n.t.asks.length ≤ 40) → 71 ≤ fuel + pre.length → pre.length ≤ 70 →
  ∃ r, r13Few_L1 near fuel pre.length = some r ∧ (near.length ≤ 70 → ((∃ i, r = .inl i) ↔ ∀ n ∈ near, n.t.uses.length ≤ 40 ∧ n.t.grants.length ≤ 40 ∧ n.t.asks.length ≤ 40)) ∧ (∀ b, r = .inr b → b = false)
 | 0, pre, post, hp, hpre, hf, hl => by omega
 | fuel + 1, pre, post, hp, hpre, hf, hl => by
  simp only [r13Few_L1]
  have hlen := congrArg List.length hp
  simp only [List.length_append] at hlen
  by_cases hc : pre.length < near.length ∧ pre.length < 70
  ·have h1 : (decide ((pre.length : Int) < (near.length : Int)) && decide ((pre.length : Int) < 70)) = true := by simp only [Bool.and_eq_true, decide_eq_true_eq]; omega
   rw [h1]
   cases post with
   | nil => simp only [List.length_nil] at hlen; omega
   | cons n post =>
    have h2 : elt near (pre.length : Int) = some n := by rw [elt_nat, hp]; simp
    rw [h2]
    simp only [cond_true, Option.bind_some]
    by_cases hn : n.t.uses.length ≤ 40 ∧ n.t.grants.length ≤ 40 ∧ n.t.asks.length ≤ 40
    ·have h3 : (decide ((n.t.uses.length : Int) > 40) || (decide ((n.t.grants.length : Int) > 40) || decide ((n.t.asks.length : Int) > 40))) = false := by simp only [Bool.or_eq_false_iff, decide_eq_false_iff_not]; omega
     have e1 : IntKind.i64.wrap ((pre.length : Int) + 1) = ((pre ++ [n]).length : Int) := by rw [wr (by omega) (by omega)]; simp
     rw [h3, e1]
     exact r13Few_L1_eq fuel (pre ++ [n]) post (by simp [hp]) (fun m hm => by rcases List.mem_append.1 hm with h | h; exact hpre m h; rw [List.mem_singleton] at h; subst h; exact hn) (by simp; omega) (by simp; omega)
    ·have h3 : (decide ((n.t.uses.length : Int) > 40) || (decide ((n.t.grants.length : Int) > 40) || decide ((n.t.asks.length : Int) > 40))) = true := by simp only [Bool.or_eq_true, decide_eq_true_eq]; omega
     rw [h3]
     exact ⟨_, rfl, fun _ => ⟨fun ⟨i, h⟩ => (by cases h), fun h => absurd (h n (by simp [hp])) hn⟩, fun b h => (by cases h; rfl)⟩
  ·have h1 : (decide ((pre.length : Int) < (near.length : Int)) && decide ((pre.length : Int) < 70)) = false := by rw [Bool.eq_false_iff]; simp only [ne_eq, Bool.and_eq_true, decide_eq_true_eq]; omega
   rw [h1]
   refine ⟨_, rfl, fun h => ⟨fun _ => ?_, fun _ => ⟨_, rfl⟩⟩, fun b h => (by cases h)⟩
   have : post = [] := List.eq_nil_of_length_eq_zero (by omega)
   subst this
   rw [hp, List.append_nil]; exact hpre
theorem r13Few_eq {fuel : Nat} (hf : 71 ≤ fuel) (near : List Near) : ∃ b, r13Few fuel near = some b ∧ (b = true → Few near) := by
 obtain ⟨r, h1, h2, h3⟩ := r13Few_L1_eq (near := near) fuel [] near rfl (fun _ h => by simp at h) (by simp; omega) (by simp)
 have h1 : r13Few_L1 near fuel 0 = some r := h1
 unfold r13Few
 rw [h1]
 cases r with
 | inl i =>
  refine ⟨_, rfl, fun h => ?_⟩
  have hl : near.length ≤ 70 := by rw [decide_eq_true_eq] at h; omega
  exact ⟨hl, (h2 hl).1 ⟨i, rfl⟩⟩
 | inr b => exact ⟨b, rfl, fun h => by rw [h3 b rfl] at h; cases h⟩
theorem f11_eq {fuel : Nat} (hf : 71 ≤ fuel) (t : Table) (near : List Near) : ∃ b, f11 fuel t near = some b ∧ (b = true → Fits t near) := by
 obtain ⟨b, h1, h2⟩ := r13Few_eq hf near
 refine ⟨b && r12Few t, by unfold f11; rw [h1]; rfl, fun h => ?_⟩
 simp only [Bool.and_eq_true] at h
 have h3 := h.2
 simp only [r12Few, Bool.and_eq_true, decide_eq_true_eq] at h3
 exact ⟨by omega, by omega, by omega, h2 h.1⟩
theorem same_self (t : Table) : r12Same t t = some true := by
 have k1 : ∀ post pre : List Use, t.uses = pre ++ post → r12Same_L1 t post pre.length = some (.inl ()) := by
  intro post
  induction post with
  | nil => intro pre _; rfl
  | cons x post ih =>
   intro pre h
   have h2 : elt t.uses (pre.length : Int) = some x := by rw [elt_nat, h]; simp
   have := ih (pre ++ [x]) (by simp [h])
   have e1 : ((pre ++ [x]).length : Int) = (pre.length : Int) + 1 := by simp
   rw [e1] at this
   simp only [r12Same_L1, h2, Option.bind_some, beq_self_eq_true, Bool.and_self, cond_true, this]
 have k2 : ∀ post pre : List Grant, t.grants = pre ++ post → r12Same_L2 t post pre.length = some (.inl ()) := by
  intro post
  induction post with
  | nil => intro pre _; rfl
  | cons x post ih =>
   intro pre h
   have h2 : elt t.grants (pre.length : Int) = some x := by rw [elt_nat, h]; simp
   have := ih (pre ++ [x]) (by simp [h])
   have e1 : ((pre ++ [x]).length : Int) = (pre.length : Int) + 1 := by simp
   rw [e1] at this
   simp only [r12Same_L2, h2, Option.bind_some, beq_self_eq_true, Bool.and_self, cond_true, this]
 have k3 : ∀ post pre : List Ask, t.asks = pre ++ post → r12Same_L3 t post pre.length = some (.inl ()) := by
  intro post
  induction post with
  | nil => intro pre _; rfl
  | cons x post ih =>
   intro pre h
   have h2 : elt t.asks (pre.length : Int) = some x := by rw [elt_nat, h]; simp
   have := ih (pre ++ [x]) (by simp [h])
   have e1 : ((pre ++ [x]).length : Int) = (pre.length : Int) + 1 := by simp
   rw [e1] at this
   simp only [r12Same_L3, h2, Option.bind_some, beq_self_eq_true, Bool.and_self, cond_true, this]
 have h1 : r12Same_L1 t t.uses 0 = _ := k1 t.uses [] rfl
 have h2 : r12Same_L2 t t.grants 0 = _ := k2 t.grants [] rfl
 have h3 : r12Same_L3 t t.asks 0 = _ := k3 t.asks [] rfl
 unfold r12Same
 rw [h1, h2, h3]
 simp
theorem law3_true {fuel : Nat} (hf : 71 ≤ fuel) (l : Layout) (t : Table) (me : Int) (near : List Near) (peer many frame : Int) : kLaw3 fuel l t me near peer many frame = some true := by
 unfold kLaw3
 obtain ⟨b, h1, h2⟩ := f11_eq hf t near
 rw [head_true, h1]
 simp only [Option.bind_some]
 cases b with
 | false => rfl
 | true =>
  have hfit := h2 rfl
  have hm := hfit.mid
  rw [kBAsk_eq _ _ _ _ _ _ _ hfit, kBGrant_eq _ _ _ _ _ hm hfit.n, kBTake_eq _ _ _ _ _ hm hfit.n, r13Ask_eq _ _ _ _ _ _ _ hfit, r13Grant_eq fuel (by omega) _ _ _ _ _ hm hfit.n, r13Take_eq fuel (by omega) _ _ _ _ _ hm hfit.n]
  simp only [cond_true, Option.bind_some, same_self]
end Go.VM.Tryz
namespace Go.VM.Tryz
theorem ge_cell {a b : Cell} : ((a.slot == b.slot) && ((a.offset == b.offset) && true)) = cellEq a b := rfl
end Go.VM.Tryz
namespace Go.VM.Tryz
set_option linter.unusedSectionVars false
theorem told_eq (a : Int) (t : Table) (frame : Int) : told a t frame = [⟨frame, a, t, noRest⟩] := rfl
end Go.VM.Tryz
namespace Go.VM
open Go.RowKit Go.ChangeShapes Go.WideShapes
structure BulkOk {H : Type} (bk : DataW H → Nat) (ba : List (DataW H) → Nat) : Prop where
 slice : ∀ e s, ba e + 1 ≤ bk (.slice e s)
 agg : ∀ e, ba e ≤ bk (.agg e)
 mem : ∀ d l, d ∈ l → bk d ≤ ba l
 len : ∀ l, l.length ≤ ba l
section
variable {H : Type} {enc : TypeId × Value → H} {P : Program} {W : World} {M : Mem} {bk : DataW H → Nat} {ba : List (DataW H) → Nat}
def Reads (M : Mem) (W : World) : Prop := ∀ b o v, W.cell? ⟨b, o, none⟩ = some v → M b o v
def Rd (enc : TypeId × Value → H) (P : Program) (W : World) (M : Mem) (bk : DataW H → Nat) (t : TypeId) (n : Nat) {X : Type} (f : X → List D) (Q : X → Prop) : Prop :=
 ∀ (fuel : Nat) (cs : List Value) (x : DataW H × List MemPlace), DataW.trod enc P W 0 (fun _ => true) true fuel t cs = some x → bk x.1 ≤ 1048576 → cs.length = n ∧ ∃ y : X, RelC M (f y) cs ∧ Q y
def RdF (enc : TypeId × Value → H) (P : Program) (W : World) (M : Mem) (bk : DataW H → Nat) (fs : List Field) (start n : Nat) {X : Type} (f : X → List D) (Q : X → Prop) : Prop :=
 ∀ (fuel : Nat) (cs : List Value) (xs : List (DataW H × List MemPlace)), (∀ (i : Nat) (fl : Field), fs[i]? = some fl → DataW.trod enc P W 0 (fun _ => true) true fuel fl.type ((cs.drop fl.offset).take (P.cellsOf fl.type)) = xs[i]?) → xs.length = fs.length → (∀ x ∈ xs, bk x.1 ≤ 1048576) → cs.length = start + n → ∃ y : X, RelC M (f y) (cs.drop start) ∧ Q y
theorem Rd.map {t : TypeId} {n : Nat} {X Y : Type} {f : X → List D} {Q : X → Prop} (g : X → Y) {f' : Y → List D} {Q' : Y → Prop} (h : Rd enc P W M bk t n f Q) (hf : ∀ x, f' (g x) = f x) (hq : ∀ x, Q x → Q' (g x)) : Rd enc P W M bk t n f' Q' := fun fuel cs x hx hb => by
 obtain ⟨h1, y, h2, h3⟩ := h fuel cs x hx hb
 exact ⟨h1, g y, by rw [hf]; exact h2, hq y h3⟩
theorem relC_append {M : Mem} : ∀ {a b : List D} {u v : List Value}, RelC M a u → RelC M b v → RelC M (a ++ b) (u ++ v)
 | [], b, u, v, h1, h2 => by simp only [RelC] at h1; subst h1; simpa using h2
 | d :: a, b, u, v, h1, h2 => by
  simp only [RelC] at h1
  obtain ⟨x, r, rfl, h3, h4, h5⟩ := h1
  simp only [List.cons_append, RelC]
  exact ⟨x, r ++ v, rfl, h3, h4, relC_append h5 h2⟩
theorem rdF_nil {start : Nat} : RdF enc P W M bk [] start 0 (fun _ : Unit => []) (fun _ => True) := fun fuel cs xs _ _ _ hl => ⟨(), by simp only [RelC]; exact List.drop_eq_nil_of_le (by omega), trivial⟩
theorem rdF_cons {fl : Field} {fs : List Field} {start n m : Nat} {X Y : Type} {f : X → List D} {g : Y → List D} {Q : X → Prop} {R : Y → Prop} (h : Rd enc P W M bk fl.type n f Q) (hc : P.cellsOf fl.type = n) (ho : fl.offset = start) (k : RdF enc P W M bk fs (start + n) m g R) :
  RdF enc P W M bk (fl :: fs) start (n + m) (fun y : X × Y => f y.1 ++ g y.2) (fun y => Q y.1 ∧ R y.2) := fun fuel cs xs ht hl hb hn => by
 cases xs with
 | nil => simp at hl
 | cons x xs =>
  have h0 := ht 0 fl rfl
  rw [ho, hc] at h0
  obtain ⟨h1, y, h2, h3⟩ := h fuel _ x (by simpa using h0) (hb x (by simp))
  obtain ⟨z, h4, h5⟩ := k fuel cs xs (fun i fl' hf => by simpa using ht (i + 1) fl' (by simpa using hf)) (by simpa using hl) (fun x hx => hb x (List.mem_cons_of_mem _ hx)) (by omega)
  refine ⟨(y, z), ?_, h3, h5⟩
  have e : cs.drop start = (cs.drop start).take n ++ cs.drop (start + n) := by rw [← List.drop_drop, List.take_append_drop]
  rw [e]
  exact relC_append h2 h4
theorem rd_struct (hB : BulkOk bk ba) {t : TypeId} {fs : Array Field} {n : Nat} {X : Type} {f : X → List D} {Q : X → Prop} (hu : P.underlying t = some (.struct fs)) (hc : P.cellsOf t = n) (k : RdF enc P W M bk fs.toList 0 n f Q) : Rd enc P W M bk t n f Q := fun fuel cs x hx hb => by
 obtain ⟨xs, m, rfl, rfl, h1, h2, h3⟩ := DataW.trod_struct hu hx
 rw [hc] at h1
 obtain ⟨y, h4, h5⟩ := k m cs xs (fun i fl hf => h3 i fl (by simpa using hf)) (by simpa using h2) (fun x hx => by
  have := hB.mem x.1 (xs.map (·.1)) (List.mem_map_of_mem hx)
  have := hB.agg (xs.map (·.1))
  simp only at hb; omega) (by omega)
 exact ⟨h1, y, by simpa using h4, h5⟩
theorem rd_int {t : TypeId} {k : IntKind} (hu : P.underlying t = some (.int k)) : Rd enc P W M bk t 1 (fun n : Int => [.lit (.int k n)]) (fun n => (Lit.int k n).wf = true) := fun fuel cs x hx _ => by
 obtain ⟨n, rfl, _, h⟩ := DataW.trod_int hu hx
 exact ⟨rfl, n, by simp [RelC, D.one, Rel, Value.oneCell'], h⟩
theorem rd_bool {t : TypeId} (hu : P.underlying t = some .bool) : Rd enc P W M bk t 1 (fun b : Bool => [.lit (.bool b)]) (fun _ => True) := fun fuel cs x hx _ => by
 obtain ⟨b, rfl, _⟩ := DataW.trod_bool hu hx
 exact ⟨rfl, b, by simp [RelC, D.one, Rel, Value.oneCell'], trivial⟩
theorem rd_sliceAny {t e : TypeId} (hu : P.underlying t = some (.slice e)) : Rd enc P W M bk t 1 (fun d : D => [d]) (fun _ => True) := fun fuel cs x hx _ => by
 rcases DataW.trod_slice hu hx with ⟨rfl, _⟩ | ⟨a, len, cap, _, _, _, _, rfl, _⟩
 ·exact ⟨rfl, .lit (.slice none 0 0), by simp [RelC, D.one, Rel, Value.oneCell'], trivial⟩
 ·exact ⟨rfl, .lit (.slice (some a) len cap), by simp [RelC, D.one, Rel, Value.oneCell'], trivial⟩
theorem choose_list {X : Type} {n : Nat} {R : Nat → X → Prop} (h : ∀ i, i < n → ∃ x, R i x) : ∃ l : List X, l.length = n ∧ ∀ i x, l[i]? = some x → R i x := by
 induction n with
 | zero => exact ⟨[], rfl, fun i x hx => by simp at hx⟩
 | succ n ih =>
  obtain ⟨l, h1, h2⟩ := ih fun i hi => h i (by omega)
  obtain ⟨x, hx⟩ := h n (by omega)
  refine ⟨l ++ [x], by simp [h1], fun i y hy => ?_⟩
  by_cases hi : i < l.length
  ·rw [List.getElem?_append_left hi] at hy; exact h2 i y hy
  ·rw [List.getElem?_append_right (by omega)] at hy
   have : i = n := by
    have := (List.getElem?_eq_some_iff.1 hy).1
    simp at this; omega
   subst this
   simp [h1] at hy
   subst hy; exact hx
theorem rd_slice (hB : BulkOk bk ba) (hM : Reads M W) {t e : TypeId} {es : Nat} {X : Type} {f : X → List D} {Q : X → Prop} (encE : X → D) (hu : P.underlying t = some (.slice e)) (hc : P.cellsOf e = es) (h0 : 0 < es) (h : Rd enc P W M bk e es f Q) (he : ∀ x, (encE x).cells = f x) :
  Rd enc P W M bk t 1 (fun l : List X => [.list es (l.map encE)]) (fun l => l.length ≤ 1048576 ∧ ∀ x ∈ l, Q x) := fun fuel cs x hx hb => by
 rcases DataW.trod_slice hu hx with ⟨rfl, _⟩ | ⟨a, len, cap, elems, rest, n, rfl, rfl, rfl, _, hl, hm, hlen, hel, _, _⟩
 ·exact ⟨rfl, [], by simp only [RelC, D.one, Rel, List.map_nil, List.length_nil]; exact ⟨_, [], rfl, trivial, ⟨none, 0, rfl, ⟨by omega, by omega⟩, .inl ⟨trivial, fun _ => rfl⟩⟩, rfl⟩, by simp⟩
 ·have hsl := hB.slice (elems.map (·.1)) (rest.map (·.1))
  have hle := hB.len (elems.map (·.1))
  simp only [List.length_map] at hle
  simp only at hb
  have each : ∀ i, i < len → ∃ y : X, Q y ∧ (f y).length = es ∧ ∀ (j : Nat) (d : D), (f y)[j]? = some d → d.one = true ∧ ∃ v, W.cell? ((a.add (i * es)).add j) = some v ∧ Rel M d v := fun i hi => by
   have h1 := hel i hi
   have hi' : i < elems.length := by omega
   rw [List.getElem?_eq_getElem hi', Option.bind_eq_some_iff, hc] at h1
   obtain ⟨cs', h2, h3⟩ := h1
   have hbi : bk (elems[i]).1 ≤ 1048576 := by
    have := hB.mem (elems[i]).1 (elems.map (·.1)) (List.mem_map_of_mem (List.getElem_mem hi'))
    omega
   obtain ⟨h4, y, h5, h6⟩ := h n cs' _ h3 hbi
   obtain ⟨h7, h8⟩ := relC_iff.1 h5
   refine ⟨y, h6, by omega, fun j d hj => ?_⟩
   have hj' : j < cs'.length := by have := (List.getElem?_eq_some_iff.1 hj).1; omega
   obtain ⟨h9, h10⟩ := h8 j d cs'[j] hj (List.getElem?_eq_getElem hj')
   refine ⟨h9, cs'[j], ?_, h10⟩
   have := (World.cells?_some h2).2.2 j (by omega)
   rw [this, List.getElem?_eq_getElem hj']
  obtain ⟨l, h1, h2⟩ := choose_list each
  refine ⟨rfl, l, ?_, by omega, fun x hx => ?_⟩
  ·have hll : (l.map encE).length = len := by rw [List.length_map, h1]
   simp only [RelC, D.one, Rel, hll]
   refine ⟨_, [], rfl, trivial, ⟨some a, cap, rfl, ⟨hl, by omega⟩, ?_⟩, rfl⟩
   by_cases hl0 : len = 0
   ·left; exact ⟨by rw [List.map_eq_nil_iff]; exact List.eq_nil_of_length_eq_zero (by omega), fun h => by cases h⟩
   ·right
    obtain ⟨b, o, sp⟩ := a
    have hsp : sp = none := by
     obtain ⟨y, _, h3, h4⟩ := each 0 (by omega)
     obtain ⟨d, hd⟩ : ∃ d, (f y)[0]? = some d := ⟨(f y)[0]'(by omega), List.getElem?_eq_getElem (by omega)⟩
     obtain ⟨_, v, h5, _⟩ := h4 0 d hd
     cases sp with
     | none => rfl
     | some s =>
      simp only [World.cell?, Addr.add] at h5
      split at h5 <;> simp at h5
    subst hsp
    refine ⟨b, o, rfl, ?_⟩
    rw [relRow_iff]
    intro i d hd
    simp only [List.getElem?_map, Option.map_eq_some_iff] at hd
    obtain ⟨y, hy, rfl⟩ := hd
    obtain ⟨_, h3, h4⟩ := h2 i y hy
    rw [he]
    refine ⟨h3, ?_⟩
    rw [relAt_iff]
    intro j d hj
    obtain ⟨h5, v, h6, h7⟩ := h4 j d hj
    refine ⟨h5, v, hM _ _ _ ?_, h7⟩
    rw [addr_add, addr_add] at h6
    exact h6
  ·obtain ⟨i, hi, rfl⟩ := List.getElem_of_mem hx
   exact (h2 i _ (List.getElem?_eq_getElem hi)).1
theorem arg_struct {r : Reach} {base : Nat} {t : TypeId} {fs : Array Field} {n : Nat} {X : Type} {f : X → List D} {Q : X → Prop} (hu : P.underlying t = some (.struct fs)) (h : Rd enc P W M bk t n f Q) {v : Value} {d : DataW H} {ps : List MemPlace} (hval : Value.okWide P W r base t v) (hd : DataW.Trod enc P W 0 (fun _ => true) true t v d ps) (hb : bk d ≤ 1048576) : ∃ y : X, Rel M (.agg (f y)) v ∧ Q y := by
 obtain ⟨fuel, hf⟩ := hd
 simp only [Value.okWide, hu] at hval
 obtain ⟨cs, rfl, _, _⟩ := hval
 obtain ⟨_, y, h1, h2⟩ := h fuel _ (d, ps) hf hb
 refine ⟨y, ?_, h2⟩
 simp only [Rel]
 exact ⟨cs.toList, by simp, by simpa [Value.cells] using h1⟩
theorem arg_one {t : TypeId} {X : Type} {f : X → D} {Q : X → Prop} (h : Rd enc P W M bk t 1 (fun y => [f y]) Q) {v : Value} {d : DataW H} {ps : List MemPlace} (hv : v.cells = #[v]) (hd : DataW.Trod enc P W 0 (fun _ => true) true t v d ps) (hb : bk d ≤ 1048576) : ∃ y : X, Rel M (f y) v ∧ Q y := by
 obtain ⟨fuel, hf⟩ := hd
 rw [hv] at hf
 obtain ⟨_, y, h1, h2⟩ := h fuel _ (d, ps) hf hb
 simp only [RelC] at h1
 obtain ⟨x, r, e, _, h3, _⟩ := h1
 cases e
 exact ⟨y, h3, h2⟩
theorem cells_int {r : Reach} {base : Nat} {t : TypeId} {k : IntKind} (hu : P.underlying t = some (.int k)) {v : Value} (hval : Value.okWide P W r base t v) : v.cells = #[v] := by
 obtain ⟨n, rfl⟩ := okWide_int hu hval; rfl
theorem cells_slice {r : Reach} {base : Nat} {t e : TypeId} (hu : P.underlying t = some (.slice e)) {v : Value} (hval : Value.okWide P W r base t v) : v.cells = #[v] := by
 obtain ⟨a, l, c, rfl⟩ := okWide_slice hu hval; rfl
theorem trodAll_below (hl : laidOutB P = true) {W W' : World} (hb : Below W.heap.size W W') : ∀ {ts : List TypeId} {vs : List Value} {ds : List (DataW H)} {ps : List MemPlace}, (ts.all fun t => P.readableRec t && decide (t < P.types.size)) = true → DataW.TrodAll enc P W 0 (fun _ => true) true ts vs ds ps → (∀ x ∈ ps, x.block < W.heap.size) → DataW.TrodAll enc P W' 0 (fun b => decide (b < W.heap.size)) true ts vs ds ps
 | [], vs, ds, ps, _, h, _ => by
  obtain ⟨rfl, rfl, rfl⟩ := trodAll_nil h
  exact trodAll_mk0
 | t :: ts, vs, ds, ps, ht, h, hp => by
  obtain ⟨v, vs', d, ds', p, q, rfl, rfl, rfl, h1, h2⟩ := trodAll_cons h
  simp only [List.all_cons, Bool.and_eq_true, decide_eq_true_eq] at ht
  exact trodAll_cons_mk (Below.trod hl ht.1.1 ht.1.2 h1 hb fun x hx => hp x (by simp [hx])) (trodAll_below hl hb (by simpa using ht.2) h2 fun x hx => hp x (by simp [hx]))
theorem law_post {f : Func} {s : ChangeSpec} {W W' : World} {args : Array Value} {ds gs : List (DataW H)} {before : List MemPlace} {tb : TypeId} (hl : laidOutB P = true) (hr : (f.params.toList.all fun t => P.readableRec t && decide (t < P.types.size)) = true)
  (hvars : s.vars = []) (hfn : ∀ ds : List (DataW H), ds.length = f.params.size → s.fn H ds = { results := [.lit (.bool true)], args := ds }) (hres : f.resultTypes = #[tb]) (hb : P.underlying tb = some .bool) (hW : DataW.Whole enc P f.params.toList s.vars false W args.toList ds gs before) (hE : Ext W W') :
  s.post enc P f false true false false W args (.bool true) W' := by
 have hW' := hW
 obtain ⟨p, q, hA, hV, rfl, _, _⟩ := hW
 have hV' := hV
 rw [hvars] at hV'
 obtain ⟨rfl, rfl⟩ := trodVars_none hV'
 have hB : Below W.heap.size W W' := ⟨hE.os, hE.tape, hE.output, hE.size, hE.keep⟩
 have hlen : ∀ {ts : List TypeId} {vs : List Value} {ds : List (DataW H)} {ps : List MemPlace}, DataW.TrodAll enc P W 0 (fun _ => true) true ts vs ds ps → ds.length = ts.length := by
  intro ts
  induction ts with
  | nil => intro vs ds ps h; obtain ⟨_, rfl, _⟩ := trodAll_nil h; rfl
  | cons t ts ih => intro vs ds ps h; obtain ⟨v, vs', d, ds', p, q, rfl, rfl, rfl, _, h2⟩ := trodAll_cons h; simp [ih h2]
 have hf := hfn ds (by rw [hlen hA]; simp)
 refine ⟨ds, [], p ++ [], [], p, [], hW', ?_, ?_, ?_, hB.frame _, fun h => by cases h⟩
 ·rw [List.append_nil, hf, hres]
  exact trodAll_mk1 (shut_bool hb true)
 ·rw [List.append_nil, hf]
  exact trodAll_below hl hB hr hA fun x hx => by simpa using hW'.lt x (by simp [hx])
 ·rw [List.append_nil, hf, hvars]; rfl
end
end Go.VM
namespace Go.VM.Tryz
open Go.Proofs Go.Proofs.YthegffpdongaoaaGreat Go.RowKit Go.ChangeShapes
set_option linter.unusedVariables false
theorem bulkOk {H : Type} : BulkOk (H := H) Rows.uptoBulk Rows.uptoBulkAll where
 slice e s := by simp only [Rows.uptoBulk]; omega
 agg e := by simp only [Rows.uptoBulk]; omega
 mem d l h := by
  induction l with
  | nil => cases h
  | cons x r ih =>
   simp only [Rows.uptoBulkAll]
   rcases List.mem_cons.1 h with rfl | h
   ·omega
   ·have := ih h; omega
 len l := by
  induction l with
  | nil => simp
  | cons x r ih =>
   have : 1 ≤ Rows.uptoBulk x := by
    cases x with
    | lit l => cases l <;> simp [Rows.uptoBulk]
    | nil => simp [Rows.uptoBulk]
    | ptr d => simp [Rows.uptoBulk]
    | slice elems spare => simp [Rows.uptoBulk]
    | agg parts => simp [Rows.uptoBulk]
    | iface t d => simp [Rows.uptoBulk]
    | map entries => simp [Rows.uptoBulk]
    | held h => simp [Rows.uptoBulk]
   simp only [Rows.uptoBulkAll, List.length_cons]; omega
section
variable {H : Type} {enc : TypeId × Value → H} {W : World} {M : Mem} (hM : Reads M W)
theorem rdI : Rd enc Tryz.prog W M Rows.uptoBulk 3 1 (fun n : Int => [I n]) (fun _ => True) := (rd_int Tryz.underlying3).map (fun n => n) (fun _ => rfl) (fun _ _ => trivial)
theorem rdLayout : Rd enc Tryz.prog W M Rows.uptoBulk 23 2 (fun x : Layout => (encLayout x).cells) (fun _ => True) :=
 (rd_struct bulkOk Tryz.underlying23 (by kernel_rfl) (rdF_cons rdI (by kernel_rfl) rfl (rdF_cons rdI (by kernel_rfl) rfl rdF_nil))).map (fun p => ⟨p.1, p.2.1⟩) (fun _ => rfl) (fun _ _ => trivial)
theorem rdCell : Rd enc Tryz.prog W M Rows.uptoBulk 57 2 (fun x : Cell => (encCell x).cells) (fun _ => True) :=
 (rd_struct bulkOk Tryz.underlying57 (by kernel_rfl) (rdF_cons rdI (by kernel_rfl) rfl (rdF_cons rdI (by kernel_rfl) rfl rdF_nil))).map (fun p => ⟨p.1, p.2.1⟩) (fun _ => rfl) (fun _ _ => trivial)
theorem rdUse : Rd enc Tryz.prog W M Rows.uptoBulk 61 4 (fun x : Use => (encUse x).cells) (fun _ => True) :=
 (rd_struct bulkOk Tryz.underlying61 (by kernel_rfl) (rdF_cons rdCell (by kernel_rfl) rfl (rdF_cons rdI (by kernel_rfl) rfl (rdF_cons rdI (by kernel_rfl) rfl rdF_nil)))).map (fun p => ⟨p.1, p.2.1, p.2.2.1⟩) (fun _ => rfl) (fun _ _ => trivial)
theorem rdGrant : Rd enc Tryz.prog W M Rows.uptoBulk 59 5 (fun x : Grant => (encGrant x).cells) (fun _ => True) :=
 (rd_struct bulkOk Tryz.underlying59 (by kernel_rfl) (rdF_cons rdCell (by kernel_rfl) rfl (rdF_cons rdI (by kernel_rfl) rfl (rdF_cons rdI (by kernel_rfl) rfl (rdF_cons rdI (by kernel_rfl) rfl rdF_nil))))).map (fun p => ⟨p.1, p.2.1, p.2.2.1, p.2.2.2.1⟩) (fun _ => rfl) (fun _ _ => trivial)
theorem rdAsk : Rd enc Tryz.prog W M Rows.uptoBulk 63 3 (fun x : Ask => (encAsk x).cells) (fun _ => True) :=
 (rd_struct bulkOk Tryz.underlying63 (by kernel_rfl) (rdF_cons rdCell (by kernel_rfl) rfl (rdF_cons rdI (by kernel_rfl) rfl rdF_nil))).map (fun p => ⟨p.1, p.2.1⟩) (fun _ => rfl) (fun _ _ => trivial)
include hM
theorem rdUses : Rd enc Tryz.prog W M Rows.uptoBulk 24 1 (fun l : List Use => [.list 4 (l.map encUse)]) (fun l => l.length ≤ 1048576) :=
 (rd_slice bulkOk hM encUse Tryz.underlying24 (by kernel_rfl) (by decide) rdUse (fun _ => rfl)).map (fun l => l) (fun _ => rfl) (fun _ h => h.1)
theorem rdGrants : Rd enc Tryz.prog W M Rows.uptoBulk 25 1 (fun l : List Grant => [.list 5 (l.map encGrant)]) (fun l => l.length ≤ 1048576) :=
 (rd_slice bulkOk hM encGrant Tryz.underlying25 (by kernel_rfl) (by decide) rdGrant (fun _ => rfl)).map (fun l => l) (fun _ => rfl) (fun _ h => h.1)
theorem rdAsks : Rd enc Tryz.prog W M Rows.uptoBulk 26 1 (fun l : List Ask => [.list 3 (l.map encAsk)]) (fun l => l.length ≤ 1048576) :=
 (rd_slice bulkOk hM encAsk Tryz.underlying26 (by kernel_rfl) (by decide) rdAsk (fun _ => rfl)).map (fun l => l) (fun _ => rfl) (fun _ h => h.1)
theorem rdTable : Rd enc Tryz.prog W M Rows.uptoBulk 28 3 (fun x : Table => (encTable x).cells) (fun t => t.uses.length ≤ 1048576 ∧ t.grants.length ≤ 1048576 ∧ t.asks.length ≤ 1048576) :=
 (rd_struct bulkOk Tryz.underlying28 (by kernel_rfl) (rdF_cons (rdUses hM) (by kernel_rfl) rfl (rdF_cons (rdGrants hM) (by kernel_rfl) rfl (rdF_cons (rdAsks hM) (by kernel_rfl) rfl rdF_nil)))).map (fun p => ⟨p.1, p.2.1, p.2.2.1⟩) (fun _ => rfl) (fun _ h => ⟨h.1, h.2.1, h.2.2.1⟩)
theorem rdNear : Rd enc Tryz.prog W M Rows.uptoBulk 55 31 (fun x : Near => (encNear x).cells) (fun _ => True) :=
 (rd_struct bulkOk Tryz.underlying55 (by kernel_rfl) (rdF_cons rdI (by kernel_rfl) rfl (rdF_cons (rd_struct bulkOk Tryz.underlying53 (by kernel_rfl) (rdF_cons rdI (by kernel_rfl) rfl (rdF_cons ((rd_int Tryz.underlying3).map (fun n => (D.lit (.int .i64 n))) (f' := fun d => [d]) (Q' := fun _ => True) (fun _ => rfl) (fun _ _ => trivial)) (by kernel_rfl) rfl (rdF_cons ((rd_int Tryz.underlying3).map (fun n => (D.lit (.int .i64 n))) (f' := fun d => [d]) (Q' := fun _ => True) (fun _ => rfl) (fun _ _ => trivial)) (by kernel_rfl) rfl (rdF_cons ((rd_int Tryz.underlying3).map (fun n => (D.lit (.int .i64 n))) (f' := fun d => [d]) (Q' := fun _ => True) (fun _ => rfl) (fun _ _ => trivial)) (by kernel_rfl) rfl (rdF_cons ((rd_int Tryz.underlying3).map (fun n => (D.lit (.int .i64 n))) (f' := fun d => [d]) (Q' := fun _ => True) (fun _ => rfl) (fun _ _ => trivial)) (by kernel_rfl) rfl (rdF_cons ((rd_int Tryz.underlying3).map (fun n => (D.lit (.int .i64 n))) (f' := fun d => [d]) (Q' := fun _ => True) (fun _ => rfl) (fun _ _ => trivial)) (by kernel_rfl) rfl (rdF_cons (rd_struct bulkOk Tryz.underlying39 (by kernel_rfl) (rdF_cons ((rd_int Tryz.underlying3).map (fun n => (D.lit (.int .i64 n))) (f' := fun d => [d]) (Q' := fun _ => True) (fun _ => rfl) (fun _ _ => trivial)) (by kernel_rfl) rfl (rdF_cons ((rd_int Tryz.underlying3).map (fun n => (D.lit (.int .i64 n))) (f' := fun d => [d]) (Q' := fun _ => True) (fun _ => rfl) (fun _ _ => trivial)) (by kernel_rfl) rfl rdF_nil))) (by kernel_rfl) rfl (rdF_cons ((rd_int Tryz.underlying3).map (fun n => (D.lit (.int .i64 n))) (f' := fun d => [d]) (Q' := fun _ => True) (fun _ => rfl) (fun _ _ => trivial)) (by kernel_rfl) rfl (rdF_cons (rd_struct bulkOk Tryz.underlying41 (by kernel_rfl) (rdF_cons ((rd_int Tryz.underlying3).map (fun n => (D.lit (.int .i64 n))) (f' := fun d => [d]) (Q' := fun _ => True) (fun _ => rfl) (fun _ _ => trivial)) (by kernel_rfl) rfl (rdF_cons ((rd_int Tryz.underlying3).map (fun n => (D.lit (.int .i64 n))) (f' := fun d => [d]) (Q' := fun _ => True) (fun _ => rfl) (fun _ _ => trivial)) (by kernel_rfl) rfl rdF_nil))) (by kernel_rfl) rfl (rdF_cons (rdUses hM) (by kernel_rfl) rfl (rdF_cons (rdGrants hM) (by kernel_rfl) rfl (rdF_cons (rdAsks hM) (by kernel_rfl) rfl (rdF_cons (rd_sliceAny Tryz.underlying42) (by kernel_rfl) rfl (rdF_cons ((rd_bool Tryz.underlying4).map (fun n => (D.lit (.bool n))) (f' := fun d => [d]) (Q' := fun _ => True) (fun _ => rfl) (fun _ _ => trivial)) (by kernel_rfl) rfl (rdF_cons (rd_sliceAny Tryz.underlying43) (by kernel_rfl) rfl (rdF_cons (rd_sliceAny Tryz.underlying43) (by kernel_rfl) rfl (rdF_cons (rd_sliceAny Tryz.underlying44) (by kernel_rfl) rfl (rdF_cons (rd_struct bulkOk Tryz.underlying47 (by kernel_rfl) (rdF_cons ((rd_int Tryz.underlying3).map (fun n => (D.lit (.int .i64 n))) (f' := fun d => [d]) (Q' := fun _ => True) (fun _ => rfl) (fun _ _ => trivial)) (by kernel_rfl) rfl (rdF_cons ((rd_int Tryz.underlying3).map (fun n => (D.lit (.int .i64 n))) (f' := fun d => [d]) (Q' := fun _ => True) (fun _ => rfl) (fun _ _ => trivial)) (by kernel_rfl) rfl (rdF_cons ((rd_int Tryz.underlying45).map (fun n => (D.lit (.int .u64 n))) (f' := fun d => [d]) (Q' := fun _ => True) (fun _ => rfl) (fun _ _ => trivial)) (by kernel_rfl) rfl (rdF_cons ((rd_int Tryz.underlying3).map (fun n => (D.lit (.int .i64 n))) (f' := fun d => [d]) (Q' := fun _ => True) (fun _ => rfl) (fun _ _ => trivial)) (by kernel_rfl) rfl rdF_nil))))) (by kernel_rfl) rfl (rdF_cons ((rd_int Tryz.underlying3).map (fun n => (D.lit (.int .i64 n))) (f' := fun d => [d]) (Q' := fun _ => True) (fun _ => rfl) (fun _ _ => trivial)) (by kernel_rfl) rfl (rdF_cons ((rd_int Tryz.underlying3).map (fun n => (D.lit (.int .i64 n))) (f' := fun d => [d]) (Q' := fun _ => True) (fun _ => rfl) (fun _ _ => trivial)) (by kernel_rfl) rfl (rdF_cons (rd_struct bulkOk Tryz.underlying51 (by kernel_rfl) (rdF_cons ((rd_int Tryz.underlying3).map (fun n => (D.lit (.int .i64 n))) (f' := fun d => [d]) (Q' := fun _ => True) (fun _ => rfl) (fun _ _ => trivial)) (by kernel_rfl) rfl (rdF_cons ((rd_int Tryz.underlying3).map (fun n => (D.lit (.int .i64 n))) (f' := fun d => [d]) (Q' := fun _ => True) (fun _ => rfl) (fun _ _ => trivial)) (by kernel_rfl) rfl (rdF_cons (rd_sliceAny Tryz.underlying48) (by kernel_rfl) rfl (rdF_cons (rd_sliceAny Tryz.underlying49) (by kernel_rfl) rfl rdF_nil))))) (by kernel_rfl) rfl (rdF_cons ((rd_bool Tryz.underlying4).map (fun n => (D.lit (.bool n))) (f' := fun d => [d]) (Q' := fun _ => True) (fun _ => rfl) (fun _ _ => trivial)) (by kernel_rfl) rfl rdF_nil))))))))))))))))))))))) (by kernel_rfl) rfl rdF_nil))).map (fun p => ⟨p.1, p.2.1.1, ⟨p.2.1.2.2.2.2.2.2.2.2.2.1, p.2.1.2.2.2.2.2.2.2.2.2.2.1, p.2.1.2.2.2.2.2.2.2.2.2.2.2.1⟩, ⟨p.2.1.2.1, p.2.1.2.2.1, p.2.1.2.2.2.1, p.2.1.2.2.2.2.1, p.2.1.2.2.2.2.2.1, p.2.1.2.2.2.2.2.2.1.1, p.2.1.2.2.2.2.2.2.1.2.1, p.2.1.2.2.2.2.2.2.2.1, p.2.1.2.2.2.2.2.2.2.2.1.1, p.2.1.2.2.2.2.2.2.2.2.1.2.1, p.2.1.2.2.2.2.2.2.2.2.2.2.2.2.1, p.2.1.2.2.2.2.2.2.2.2.2.2.2.2.2.1, p.2.1.2.2.2.2.2.2.2.2.2.2.2.2.2.2.1, p.2.1.2.2.2.2.2.2.2.2.2.2.2.2.2.2.2.1, p.2.1.2.2.2.2.2.2.2.2.2.2.2.2.2.2.2.2.1, p.2.1.2.2.2.2.2.2.2.2.2.2.2.2.2.2.2.2.2.1.1, p.2.1.2.2.2.2.2.2.2.2.2.2.2.2.2.2.2.2.2.1.2.1, p.2.1.2.2.2.2.2.2.2.2.2.2.2.2.2.2.2.2.2.1.2.2.1, p.2.1.2.2.2.2.2.2.2.2.2.2.2.2.2.2.2.2.2.1.2.2.2.1, p.2.1.2.2.2.2.2.2.2.2.2.2.2.2.2.2.2.2.2.2.1, p.2.1.2.2.2.2.2.2.2.2.2.2.2.2.2.2.2.2.2.2.2.1, p.2.1.2.2.2.2.2.2.2.2.2.2.2.2.2.2.2.2.2.2.2.2.1.1, p.2.1.2.2.2.2.2.2.2.2.2.2.2.2.2.2.2.2.2.2.2.2.1.2.1, p.2.1.2.2.2.2.2.2.2.2.2.2.2.2.2.2.2.2.2.2.2.2.1.2.2.1, p.2.1.2.2.2.2.2.2.2.2.2.2.2.2.2.2.2.2.2.2.2.2.1.2.2.2.1, p.2.1.2.2.2.2.2.2.2.2.2.2.2.2.2.2.2.2.2.2.2.2.2.1⟩⟩) (fun _ => rfl) (fun _ _ => trivial)
theorem rdNears : Rd enc Tryz.prog W M Rows.uptoBulk 29 1 (fun l : List Near => [.list 31 (l.map encNear)]) (fun l => l.length ≤ 1048576) :=
 (rd_slice bulkOk hM encNear Tryz.underlying29 (by kernel_rfl) (by decide) (rdNear hM) (fun _ => rfl)).map (fun l => l) (fun _ => rfl) (fun _ h => h.1)
end
theorem own : ownKnob Tryz.prog.godebug = none := by kernel_rfl
theorem laidOut : laidOutB Tryz.prog = true := by kernel_rfl
theorem reads_memA (W : World) : Reads (memA (fun _ => False) W) W := fun b o v h => ⟨id, h⟩
set_option maxRecDepth 100000 in
theorem contract3 (H : Type) (enc : TypeId × Value → H) (W : World) (base : Nat) (args : Array Value) (ds gs : List (DataW H)) (before : List MemPlace)
  (hval : ∀ (j : Nat) t v, Tryz.f3.params[j]? = some t → args[j]? = some v → Value.okWide Tryz.prog W .any base t v)
  (hW : DataW.Whole enc Tryz.prog Tryz.f3.params.toList Rows.bargainMatchesReferenceSpec.vars false W args.toList ds gs before) (hk : Rows.uptoSmall H (ds ++ gs) = true) :
  Calls Tryz.prog 3 args W fun e W' => ∃ v, e = .returned v ∧ Rows.bargainMatchesReferenceSpec.post enc Tryz.prog Tryz.f3 false true false false W args v W' := by
 have hW' := hW
 obtain ⟨p, q, hA0, hV, rfl, hfz, hnd⟩ := hW
 obtain ⟨rfl, rfl⟩ := trodVars_none hV
 have hA : DataW.TrodAll enc Tryz.prog W 0 (fun _ => true) true Tryz.f3.params.toList args.toList ds p := hA0
 rw [Tryz.params3] at hA hval
 clear hA0
 obtain ⟨v0, vs0, d0, ds0, p0, q0, hargs, rfl, rfl, h0, r0⟩ := trodAll_cons hA
 obtain ⟨v1, vs1, d1, ds1, p1, q1, rfl, rfl, rfl, h1, r1⟩ := trodAll_cons r0
 obtain ⟨v2, vs2, d2, ds2, p2, q2, rfl, rfl, rfl, h2, r2⟩ := trodAll_cons r1
 obtain ⟨v3, vs3, d3, ds3, p3, q3, rfl, rfl, rfl, h3, r3⟩ := trodAll_cons r2
 obtain ⟨v4, vs4, d4, ds4, p4, q4, rfl, rfl, rfl, h4, r4⟩ := trodAll_cons r3
 obtain ⟨v5, vs5, d5, ds5, p5, q5, rfl, rfl, rfl, h5, r5⟩ := trodAll_cons r4
 obtain ⟨v6, vs6, d6, ds6, p6, q6, rfl, rfl, rfl, h6, r6⟩ := trodAll_cons r5
 obtain ⟨rfl, rfl, rfl⟩ := trodAll_nil r6
 obtain rfl : args = #[v0, v1, v2, v3, v4, v5, v6] := by cases args; simp_all
 have hbulk : ∀ d ∈ [d0, d1, d2, d3, d4, d5, d6], Rows.uptoBulk d ≤ 1048576 := fun d hd => by
  have h1 := bulkOk.mem d _ hd
  have h2 := of_decide_eq_true hk
  rw [List.append_nil] at h2
  exact Nat.le_trans h1 h2
 have hM := reads_memA W
 obtain ⟨y0, z0, q0⟩ := arg_struct Tryz.underlying23 rdLayout (hval 0 23 v0 rfl rfl) h0 (hbulk _ (by simp))
 obtain ⟨y1, z1, q1⟩ := arg_struct Tryz.underlying28 (rdTable hM) (hval 1 28 v1 rfl rfl) h1 (hbulk _ (by simp))
 obtain ⟨y2, z2, q2⟩ := arg_one rdI (cells_int Tryz.underlying3 (hval 2 3 v2 rfl rfl)) h2 (hbulk _ (by simp))
 obtain ⟨y3, z3, q3⟩ := arg_one (rdNears hM) (cells_slice Tryz.underlying29 (hval 3 29 v3 rfl rfl)) h3 (hbulk _ (by simp))
 obtain ⟨y4, z4, q4⟩ := arg_one rdI (cells_int Tryz.underlying3 (hval 4 3 v4 rfl rfl)) h4 (hbulk _ (by simp))
 obtain ⟨y5, z5, q5⟩ := arg_one rdI (cells_int Tryz.underlying3 (hval 5 3 v5 rfl rfl)) h5 (hbulk _ (by simp))
 obtain ⟨y6, z6, q6⟩ := arg_one rdI (cells_int Tryz.underlying3 (hval 6 3 v6 rfl rfl)) h6 (hbulk _ (by simp))
 refine (((kLaw3_ok 71 y0 y1 y2 y3 y4 y5 y6 true (law3_true (by omega) y0 y1 y2 y3 y4 y5 y6)).2 (fun _ => False) W [v0, v1, v2, v3, v4, v5, v6] (fun _ h => h.elim) ⟨_, _, rfl, z0, _, _, rfl, z1, _, _, rfl, z2, _, _, rfl, z3, _, _, rfl, z4, _, _, rfl, z5, _, _, rfl, z6, rfl⟩)).mono fun e W' ⟨v, he, hr, hE⟩ => ?_
 simp only [B, Rel] at hr
 subst hr
 refine ⟨_, he, law_post (P := Tryz.prog) (f := Tryz.f3) (s := Rows.bargainMatchesReferenceSpec) (tb := 4) laidOut (by kernel_rfl) rfl (fun ds hd => ?_) rfl Tryz.underlying4 hW' hE⟩
 have hd : ds.length = 7 := hd
 match ds, hd with
 | [a0, a1, a2, a3, a4, a5, a6], _ => rfl
set_option maxRecDepth 100000 in
theorem lifted3 (os : Os) (started : os.Started) (H : Type) (enc : TypeId × Value → H) (F : Stop.Interp) :
  ReturnsInHanded {} Tryz.checked os 3 .any ((Rows.OpenSpec.upto Rows.bargainMatchesReferenceSpec).pre6 enc Tryz.prog Tryz.f3 Rows.bargainMatchesReferenceUptoRow.domain false) (((Rows.OpenSpec.upto Rows.bargainMatchesReferenceSpec).at F).post enc Tryz.prog Tryz.f3 false true false false) := by
 refine returnsInHanded_of_cond (C := Tryz.checked) (s := Rows.OpenSpec.upto Rows.bargainMatchesReferenceSpec) (k := Rows.uptoSmall) rfl own started (by kernel_rfl) Tryz.func3
  (OpenSpec.witness (enc := enc) (C := Tryz.checked) (s := Rows.OpenSpec.upto Rows.bargainMatchesReferenceSpec) (k := Rows.uptoSmall) rfl false ⟨#[], #[.agg #[.int .i64 0, .int .i64 0], .agg #[.slice none 0 0, .slice none 0 0, .slice none 0 0], .int .i64 0, .slice none 0 0, .int .i64 0, .int .i64 0, .int .i64 0], []⟩ 8 (by kernel_rfl) (by kernel_rfl) (by kernel_rfl)
   (x := ([.agg [.lit (.int .i64 0), .lit (.int .i64 0)], .agg [.nil, .nil, .nil], .lit (.int .i64 0), .nil, .lit (.int .i64 0), .lit (.int .i64 0), .lit (.int .i64 0)], [], [])) (by kernel_rfl) rfl (by kernel_rfl)) ?_
 intro W base args ds gs before hval hW _ hk _
 exact contract3 H enc W base args ds gs before hval hW hk
theorem over3 : Rows.bargainMatchesReferenceUptoRow.holds Tryz.pinned (Rows.OpenSpec.upto Rows.bargainMatchesReferenceSpec) :=
 OpenClaim.holds_of_cond 3 Tryz.f3 rfl rfl rfl rfl rfl rfl rfl ⟨rfl, rfl, rfl, rfl, rfl⟩ rfl rfl rfl rfl rfl (by kernel_rfl) Tryz.func3 (by kernel_rfl)
  (of_decide_eq_true (by kernel_rfl)) (by unfold Func.isWrapper; first | (rw [if_pos (by decide +kernel)]; kernel_rfl) | (rw [if_neg (by decide +kernel)]; exact ⟨rfl, rfl⟩))
  (fun os started H enc _ F => lifted3 os started H enc F)
theorem proved3 : Rows.BargainMatchesReferenceUptoSaid := over3
end Go.VM.Tryz
namespace Go.Proofs.YthegffpdongaoaaGreat
theorem holds : Rows.BargainMatchesReferenceUptoSaid := Go.VM.Tryz.proved3
end Go.Proofs.YthegffpdongaoaaGreat
