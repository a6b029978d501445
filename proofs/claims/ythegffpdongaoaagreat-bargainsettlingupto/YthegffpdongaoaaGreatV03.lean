/-
  Proved: BargainSettlingUptoSaid, for every input whose bulk is at most 1048576 values; no further condition. (This text is one part of the proof.)
-/
import Derived.Test.YthegffpdongaoaaGreatV02
import Derived.Test.YthegffpdongaoaaGreatV01
import Derived.Maps.RangeRun
import Derived.Shelf.GgSortFunc.InsertionK
import Derived.Shelf.SlSortCmp.NoneTotal
import Derived.Ground.SlsfProg
import Derived.Test.YthegffpdongaoaaGreatProg
import Derived.WalkKit
set_option linter.unusedVariables false
set_option linter.unusedSimpArgs false
set_option linter.unusedSectionVars false
namespace Go.VM
open Go.ChangeMaps (setBlock)
theorem Trans.mem_le {m : Nat} {A : Nat → Prop} {σ σ' : Sig} {η η' : Nat → Value} {w w' : World} (t : Trans m σ η w σ' η' w') : Mem.le (mem A η σ w) (mem A η' σ' w') := fun b o v ⟨h1, h2, h3⟩ =>
  ⟨h1, fun h => (t.own b h).elim h2 (fun hl => absurd (lt_of_cell h3) (Nat.not_lt.2 hl)), by rw [cell_of_heap (t.keep b (lt_of_cell h3) h2)]; exact h3⟩
theorem run_wp_app {P : Program} {T : Tab} (hT : TabOk P T) (hS : Sized T) {m N : Nat} {ops : Array Oper} {Q : Exit → Act → World → Prop} {A : Nat → Prop} {r : Option Nat} {n : Nat} {ds : List Deferred} (rest : List Oper) :
    ∀ {l : List Oper} {tags : List Tag} {E E' : Env} {σ σ' : Sig}, Run P T N ops l tags E σ E' σ' → m ≤ σ.length → ∀ {η : Nat → Value} {w : World} {tmps : Array Value}, St A N σ η w E tmps →
      (∀ w' η' tmps', St A N σ' η' w' E' tmps' → Trans m σ η w σ' η' w' → wpListIn (fw r) n P ops Q rest { tmps := tmps', defers := ds } w') → wpListIn (fw r) n P ops Q (l ++ rest) { tmps, defers := ds } w := by
  intro l tags E E' σ σ' h
  induction h with
  | nil => intro _ η w tmps hs hq; exact hq w η tmps hs (.refl _ _ _ _)
  | @step o l tags tag E E' σ σ1 σ' v hg hd h k ih =>
    intro hm η w tmps hs hq
    rw [List.cons_append]
    refine wpListIn_step fun K hK => ?_
    rw [if_pos (wanted_of_guardV hs hg)]
    refine sem1_wp hm hT hS hs.sig h (fun x _ => hs.eval ds x) (fun x w1 η1 hn => ?_) r n
    refine hK _ _ ?_
    have hs1 := hs.next hn o.dst hd (ds := ds)
    have := ih (Nat.le_trans hm (sem1_len h)) hs1 (fun w' η' tmps' hs' ht => hq w' η' tmps' hs' (hn.trans.trans ht))
    have e : ((Act.mk tmps ds).put o.dst x) = { tmps := ((Act.mk tmps ds).put o.dst x).tmps, defers := ds } := by cases o.dst <;> rfl
    rw [e]; exact this
  | @skip o l tags E E' σ σ' hg hd k ih =>
    intro hm η w tmps hs hq
    rw [List.cons_append]
    refine wpListIn_step fun K hK => ?_
    rw [if_neg (by rw [wanted_of_guardV hs hg]; simp)]
    refine ⟨fun _ _ => trivial, hK _ _ ?_⟩
    have hs1 := hs.next (Nxt.of_ext (m := m) (v := .d (.lit undef)) (x := undef) hs.sig (.refl w) (by simp only [RelV, Rel])) o.dst hd (ds := ds)
    have := ih hm hs1 (fun w' η' tmps' hs' ht => hq w' η' tmps' hs' ht)
    have e : ((Act.mk tmps ds).put o.dst undef) = { tmps := ((Act.mk tmps ds).put o.dst undef).tmps, defers := ds } := by cases o.dst <;> rfl
    rw [e]; exact this
def IterAt (Pc : D → D → Prop) (A : Nat → Prop) (σ : Sig) (η : Nat → Value) (ml : List (D × D)) (r n : Nat) (w : World) : Prop :=
  ∃ bm since seen c0 es clock, w.heap[r]? = some (.mapIter (some bm) since seen c0) ∧ w.heap[bm]? = some (.map es clock) ∧ ¬ Owned η σ r ∧ ¬ Owned η σ bm ∧ (∀ x ∈ es.toList, x.born < since) ∧ since ≤ c0 ∧ c0 ≤ clock ∧ (es.toList.map (·.born)).Nodup ∧
    RelL (mem A η σ w) (ml.map (·.1)) (es.toList.map (·.key)) ∧ RelL (mem A η σ w) (ml.map (·.2)) (es.toList.map (·.val)) ∧ (leftOf es seen).size = n ∧ ∀ (j : Nat) e y, es.toList[j]? = some e → ml[j]? = some y → seen.contains e.born = true → Pc y.1 y.2
theorem IterAt.trans {m : Nat} {A : Nat → Prop} {σ σ' : Sig} {η η' : Nat → Value} {w w' : World} {ml : List (D × D)} {r n : Nat} {Pc : D → D → Prop} (h : IterAt Pc A σ η ml r n w) (t : Trans m σ η w σ' η' w') : IterAt Pc A σ' η' ml r n w' := by
  obtain ⟨bm, since, seen, c0, es, clock, h1, h2, h3, h4, h5, h6, h7, h8, h9, h10, h11, h12⟩ := h
  have l1 := (Array.getElem?_eq_some_iff.1 h1).1
  have l2 := (Array.getElem?_eq_some_iff.1 h2).1
  exact ⟨bm, since, seen, c0, es, clock, (t.keep r l1 h3).trans h1, (t.keep bm l2 h4).trans h2, fun h => (t.own r h).elim h3 (fun hl => by omega), fun h => (t.own bm h).elim h4 (fun hl => by omega), h5, h6, h7, h8, relL_mono t.mem_le h9, relL_mono t.mem_le h10, h11, h12⟩
theorem setBlock_other {w : World} {r b : Nat} {o : Go.Obj} (h : b ≠ r) : (setBlock w r o).heap[b]? = w.heap[b]? := by
  simp only [setBlock]; rw [Array.getElem?_setIfInBounds]; rw [if_neg (fun e => h e.symm)]
theorem st_setBlock {A : Nat → Prop} {N m : Nat} {σ : Sig} {η : Nat → Value} {w : World} {E : Env} {tmps : Array Value} (hs : St A N σ η w E tmps) {r : Nat} {o' : Go.Obj} (hr : ¬ Owned η σ r) (hc : ∀ off, w.cell? ⟨r, off, none⟩ = none) :
    St A N σ η (setBlock w r o') E tmps ∧ (∀ b, b ≠ r → (setBlock w r o').heap[b]? = w.heap[b]?) ∧ (setBlock w r o').heap.size = w.heap.size ∧ Mem.le (mem A η σ w) (mem A η σ (setBlock w r o')) := by
  have hsz : (setBlock w r o').heap.size = w.heap.size := by simp [setBlock]
  have hM : Mem.le (mem A η σ w) (mem A η σ (setBlock w r o')) := fun b o v ⟨h1, h2, h3⟩ => ⟨h1, h2, by
    have : b ≠ r := fun e => by subst e; rw [hc] at h3; cases h3
    rw [cell_of_heap (setBlock_other this)]; exact h3⟩
  have hk : Keeps (mem A η σ w) σ η (mem A η σ (setBlock w r o')) σ η := ⟨hM, Nat.le_refl _, fun k _ => .inl ⟨rfl, fun e es l hl => ⟨l, hl, rfl⟩⟩⟩
  refine ⟨⟨⟨fun k o hko => ?_, hs.sig.inj, fun b hb => by rw [hsz]; exact hs.sig.out b hb, fun b hb => by rw [hsz]; exact hs.sig.bound b hb⟩, hs.size, fun t => relV_keep hk _ _ (hs.env t)⟩, fun b hb => setBlock_other hb, hsz, hM⟩
  by_cases hd : o = .dead
  · subst hd; trivial
  · exact objRel_keep hk rfl (fun b hb => setBlock_other (fun e => hr ⟨k, o, hko, hd, by rw [hb, e]⟩)) (by rw [hsz]; exact Nat.le_refl _) (hs.sig.objs k o hko)
theorem left_push {es : Array MapEntry} {seen : Array Nat} {e : MapEntry} (he : e ∈ (leftOf es seen).toList) : (leftOf es (seen.push e.born)).size < (leftOf es seen).size := by
  have h1 : (leftOf es (seen.push e.born)).toList = (leftOf es seen).toList.filter (fun x => x.born != e.born) := by
    unfold leftOf
    simp only [Array.toList_filter, List.filter_filter]
    apply List.filter_congr
    intro x _
    simp only [Array.contains_push, bne]
    by_cases h : x.born = e.born
    · simp [h]
    · simp [h, Bool.and_comm]
  have h2 : (leftOf es (seen.push e.born)).size = (leftOf es (seen.push e.born)).toList.length := by simp
  have h3 : (leftOf es seen).size = (leftOf es seen).toList.length := by simp
  rw [h2, h3, h1]
  exact List.length_filter_lt_length_iff_exists.2 ⟨e, he, by simp⟩
theorem vc_mapRange {P : Program} {T : Tab} (hT : TabOk P T) (hS : Sized T) {m N i6 i7 i8 b0 b1 : Nat} {l6 l8 : List Oper} {o2 o3 o4 o5 : Oper} {x : Operand} {ti tn tb te : Tmp} {mt kt vt : TypeId} {body : Code} {Q : Post} {E : Env} {σ σs : Sig} (l : List (Nat × V)) (ml : List (D × D)) (Pc : D → D → Prop)
    (hm6 : m ≤ σ.length) (hr6 : RunQ P T N (l6 ++ [o2]).toArray (fun _ => true) [] l6 (fun E' σ' => ev E' x = .omap σs.length ∧ σ' = σs ++ [.map ml] ∧ KeepOk E' l) E σ)
    (h2 : o2.op = .range mt x) (g2 : o2.guard = none) (d2 : o2.dst = some ti) (h3 : o3.op = .next (.tmp ti) false) (g3 : o3.guard = none) (d3 : o3.dst = some tn) (h4 : o4.op = .extract (.tmp tn) 0) (g4 : o4.guard = none) (d4 : o4.dst = some tb)
    (h5 : o5.op = .entry (.tmp ti)) (g5 : o5.guard = none) (d5 : o5.dst = some te) (hmt : P.underlying mt = some (.map kt vt)) (hlt : (Nat.blt ti N && Nat.blt tn N && Nat.blt tb N && Nat.blt te N) = true) (hne : (ti != tn && ti != tb && ti != te && tn != tb && tn != te && tb != te) = true)
    (hl : l.all (fun x => x.2.bnd σs.length) = true) (hno : l.all (fun x => x.1 != ti && x.1 != tn && x.1 != tb && x.1 != te) = true) (hm : m ≤ σs.length) (hob : σs.all (Obj.bnd σs.length) = true) (hdone : (∀ y ∈ ml, Pc y.1 y.2) → Q .normal (envOf l) σs)
    (hbody : ∀ r key val, (key, val) ∈ ml → RunQ P T N (o5 :: l8).toArray (fun _ => true) [] l8 (fun E' σ' => VC P m N body (fun e E2 σ2 => ((e = .normal ∨ e = .exit b1) ∧ Pc key val ∧ Weak m E2 σ2 (envOf ((ti, .d (.lit (.pointer (some ⟨r, 0, none⟩)))) :: l)) σs) ∨ (e ≠ .normal ∧ (∀ b, e ≠ .exit b) ∧ Q e E2 σ2)) E' σ')
      (envOf ((te, .d (.tuple [key, val])) :: (ti, .d (.lit (.pointer (some ⟨r, 0, none⟩)))) :: l)) σs) :
    VC P m N (.seq (.region i6 (l6 ++ [o2]).toArray false) (.block b0 (.loop (.seq (.region i7 [o3, o4].toArray false) (.seq (.cond (.tmp tb) .skip (.exit b0)) (.block b1 (.seq (.region i8 (o5 :: l8).toArray false) body))))))) Q E σ := by
  simp only [Bool.and_eq_true] at hlt
  obtain ⟨⟨⟨n1, n2⟩, n3⟩, n4⟩ := hlt
  have n1 := Nat.le_of_ble_eq_true n1
  have n2 := Nat.le_of_ble_eq_true n2
  have n3 := Nat.le_of_ble_eq_true n3
  have n4 := Nat.le_of_ble_eq_true n4
  simp only [Bool.and_eq_true, bne_iff_ne, ne_eq] at hne
  obtain ⟨⟨⟨⟨⟨e1, e2⟩, e3⟩, e4⟩, e5⟩, e6⟩ := hne
  have hany : ∀ t, t = ti ∨ t = tn ∨ t = tb ∨ t = te → envOf l t = .any := by
    intro t ht
    have : ∀ l : List (Nat × V), l.all (fun x => x.1 != ti && x.1 != tn && x.1 != tb && x.1 != te) = true → envOf l t = .any := by
      intro l
      induction l with
      | nil => intro _; rfl
      | cons y l ih =>
        obtain ⟨s, v⟩ := y
        intro h
        simp only [List.all_cons, Bool.and_eq_true, bne_iff_ne, ne_eq] at h
        unfold envOf
        cases hb : Nat.beq t s with
        | true =>
          have := Nat.eq_of_beq_eq_true hb
          subst this
          rcases ht with rfl | rfl | rfl | rfl
          · exact absurd rfl h.1.1.1.1
          · exact absurd rfl h.1.1.1.2
          · exact absurd rfl h.1.1.2
          · exact absurd rfl h.1.2
        | false => exact ih h.2
    exact this l hno
  let ptr : Nat → V := fun r => .d (.lit (.pointer (some ⟨r, 0, none⟩)))
  let Er : Nat → Env := fun r => envOf ((ti, ptr r) :: l)
  have hEr : ∀ r, Er r ti = ptr r := fun r => by simp [Er, envOf]
  have hErl : ∀ r t, t ≠ ti → Er r t = envOf l t := fun r t ht => by
    simp only [Er, envOf]
    cases hb : Nat.beq t ti with
    | true => exact absurd (Nat.eq_of_beq_eq_true hb) ht
    | false => rfl
  intro rd n n0 A η w tmps ds hs hd ho
  have hwant : ∀ (o : Oper) y, o.guard = none → Region.wanted o y = true := fun o y h => by simp [Region.wanted, h]
  obtain ⟨LB, hLB⟩ : ∃ LB : Code, LB = .seq (.region i7 [o3, o4].toArray false) (.seq (.cond (.tmp tb) .skip (.exit b0)) (.block b1 (.seq (.region i8 (o5 :: l8).toArray false) body))) := ⟨_, rfl⟩
  rw [← hLB]
  have key : ∀ (σb : Sig) (ηb : Nat → Value) (wb : World) n, ∀ η w tmps ds r, Trans m σb ηb wb σs η w → wb.heap.size ≤ r → St A N σs η w (Er r) tmps → Marks n0 ds w → RoundOk rd m σs η → IterAt Pc A σs η ml r n w →
      RW P rd LB (post m A N σb ηb wb n0 (QBlock b0 Q)) { tmps, defers := ds } w := by
    intro σb ηb wb n
    induction n using Nat.strongRecOn with
    | _ n ih =>
    intro η w tmps ds r tb0 hrb hs hd ho hit
    have hit0 := hit
    obtain ⟨bm, since, seen, c0, es, clock, i1, i2, i3, i4, i5, i6', i7', i8', i9, i10, i11, i12⟩ := hit
    have hrl := (Array.getElem?_eq_some_iff.1 i1).1
    have hti : ∀ {η : Nat → Value} {w : World} {tmps : Array Value} {E : Env}, St A N σs η w E tmps → E ti = ptr r → (Act.mk tmps ds).eval (.tmp ti) = .pointer (some ⟨r, 0, none⟩) := fun hs hE => by
      have := hs.eval ds (.tmp ti)
      simp only [ev] at this
      rw [hE] at this
      simpa only [ptr, RelV, Rel] using this
    have step : ∀ (Q7 : Exit → Act → World → Prop) (c : Bool) (tail : List D) (vt : List Value) (w1 : World) (η1 : Nat → Value), St A N σs η1 w1 (Er r) tmps → RelL (mem A η1 σs w1) tail vt →
        (∀ w2 η2 tmps2, St A N σs η2 w2 (envOf ((tb, .d (.lit (.bool c))) :: (ti, ptr r) :: l)) tmps2 → Trans m σs η1 w1 σs η2 w2 → Q7 .normal { tmps := tmps2, defers := ds } w2) →
        wpListIn (fw rd) 0 P [o3, o4].toArray Q7 [o4] ((Act.mk tmps ds).put (some tn) (.tuple (Value.bool c :: vt).toArray)) w1 := by
      intro Q7 c tail vt w1 η1 hs1 htl k
      have hs2 := hs1.next (Nxt.of_ext (m := m) (v := .d (.tuple (.lit (.bool c) :: tail))) (x := .tuple (Value.bool c :: vt).toArray) hs1.sig (.refl w1) (by
        simp only [RelV, Rel]; exact ⟨Value.bool c :: vt, rfl, by simp only [RelL, Rel]; exact ⟨_, _, rfl, rfl, htl⟩⟩)) (some tn) (fun t h => by cases h; exact n2) (ds := ds)
      have ea : ((Act.mk tmps ds).put (some tn) (.tuple (Value.bool c :: vt).toArray)) = { tmps := ((Act.mk tmps ds).put (some tn) (.tuple (Value.bool c :: vt).toArray)).tmps, defers := ds } := rfl
      rw [ea]
      have hrun : Run P T N [o3, o4].toArray [o4] [.pure] (upd (Er r) (some tn) (.d (.tuple (.lit (.bool c) :: tail)))) σs (upd (upd (Er r) (some tn) (.d (.tuple (.lit (.bool c) :: tail)))) o4.dst (.d (.lit (.bool c)))) σs :=
        .step (by simp [guardV, g4]) (fun t h => by rw [d4] at h; cases h; exact n3) (.pure (.fn (by rw [h4]; simp [pureOp, ev, upd]))) .nil
      refine run_wp hT hS hrun hm hs2 (fun w' η' tmps' hs' ht => k w' η' tmps' ⟨hs'.sig, hs'.size, fun t => vle_rel ?_ (hs'.env t)⟩ ht)
      rw [d4]
      by_cases h1 : t = tb
      · subst h1; exact .eq (by simp [upd, envOf])
      · by_cases h2 : t = tn
        · subst h2
          have : envOf ((tb, V.d (.lit (.bool c))) :: (ti, ptr r) :: l) t = .any := by
            have h1' : Nat.beq t tb = false := by cases hb : Nat.beq t tb with | true => exact absurd (Nat.eq_of_beq_eq_true hb) h1 | false => rfl
            have h2' : Nat.beq t ti = false := by cases hb : Nat.beq t ti with | true => exact absurd (Nat.eq_of_beq_eq_true hb).symm e1 | false => rfl
            simp only [envOf, h1', h2', cond_false]
            exact hany t (.inr (.inl rfl))
          rw [this]; exact .any
        · refine .eq ?_
          have h1' : Nat.beq t tb = false := by cases hb : Nat.beq t tb with | true => exact absurd (Nat.eq_of_beq_eq_true hb) h1 | false => rfl
          simp only [upd, if_neg h1, if_neg h2, envOf, h1', cond_false, Er]
    conv => arg 3; rw [hLB]
    refine RW.unroll (wpIn_seq (wpIn_region_lit (wpListIn_step fun K hK => ?_)))
    rw [← hLB] at hK
    rw [if_pos (hwant o3 _ g3)]
    refine Oper.wpIn_of rd 0 (by rw [h3]; intro c h; cases h) ?_
    rcases run_next_at (P := P) w o3.type r bm since c0 seen es clock i1 i2 i5 i6' with ⟨hsz, hrun⟩ | ⟨e, he, w1, hw1, hrun⟩
    · -- nothing is left
      have hall : ∀ y ∈ ml, Pc y.1 y.2 := by
        intro y hy
        obtain ⟨j, hj⟩ := List.getElem?_of_mem hy
        have hjl := (List.getElem?_eq_some_iff.1 hj).1
        obtain ⟨r1, _⟩ := relL_iff.1 i9
        have hjl2 : j < es.toList.length := by have : ml.length = es.toList.length := by simpa using r1
                                               omega
        refine i12 j _ y (List.getElem?_eq_getElem hjl2) hj ?_
        have hem : es.toList[j] ∈ es.toList := List.getElem_mem hjl2
        generalize es.toList[j] = e at hem
        have hnil : leftOf es seen = #[] := Array.eq_empty_of_size_eq_zero hsz
        unfold leftOf at hnil
        rw [Array.filter_eq_empty_iff] at hnil
        have := hnil e (Array.mem_toList_iff.1 hem)
        simpa using this
      refine wp_value (x := .tuple #[.bool false]) (w1 := w) (by simp only [execOp, h3, hti hs (hEr r), Sem.run_bind, hrun, Result.andThen_ok, Sem.run_pure]) (hK _ _ ?_)
      rw [d3]
      refine step _ false [] [] w η hs (by simp [RelL]) (fun w2 η2 tmps2 hs2 ht2 => ?_)
      have hV : VC P m N (.seq (.cond (.tmp tb) .skip (.exit b0)) (.block b1 (.seq (.region i8 (o5 :: l8).toArray false) body))) (fun e E' σ' => e = .exit b0 ∧ E' = envOf ((tb, .d (.lit (.bool false))) :: (ti, ptr r) :: l) ∧ σ' = σs) (envOf ((tb, .d (.lit (.bool false))) :: (ti, ptr r) :: l)) σs :=
        vc_seq (vc_condF (by simp [ev, envOf]) (vc_exit ⟨rfl, rfl, rfl⟩))
      refine wpIn_mono (hV rd 0 n0 A η2 w2 tmps2 ds hs2 (hd.trans hs.sig ht2) (ho.trans ht2)) ?_
      rintro ex a3 w3 ⟨E3, σ3, η3, ⟨rfl, rfl, rfl⟩, hs3, hd3, ht3⟩
      refine ⟨envOf l, σ3, η3, by simp only [QBlock, if_pos]; exact hdone hall, ⟨hs3.sig, hs3.size, fun t => ?_⟩, hd3, (tb0.trans ht2).trans ht3⟩
      by_cases ht : t = tb ∨ t = ti
      · rw [hany t (by rcases ht with rfl | rfl <;> simp)]; simp only [RelV]
      · have hx := hs3.env t
        have h1' : Nat.beq t tb = false := by cases hb : Nat.beq t tb with | true => exact absurd (.inl (Nat.eq_of_beq_eq_true hb)) ht | false => rfl
        have h2' : Nat.beq t ti = false := by cases hb : Nat.beq t ti with | true => exact absurd (.inr (Nat.eq_of_beq_eq_true hb)) ht | false => rfl
        simpa only [envOf, h1', h2', cond_false] using hx
    · -- an entry
      have hx1 : Ext w w1 := by rcases hw1 with rfl | rfl; exact .refl _; exact Ext.drew w
      have hh : w1.heap = w.heap := by rcases hw1 with rfl | rfl <;> rfl
      have hcell : ∀ off, w1.cell? ⟨r, off, none⟩ = none := fun off => by simp [World.cell?, hh, i1]
      have hs1 : St A N σs η w1 (Er r) tmps := ⟨hs.sig.ext hx1, hs.size, fun t => relV_keep (Keeps.of_ext hx1) _ _ (hs.env t)⟩
      obtain ⟨hs2, hoth, hsz, hM⟩ := st_setBlock (m := m) (o' := .mapIter (some bm) since (seen.push e.born) clock) hs1 i3 hcell
      obtain ⟨W2, hW2⟩ : ∃ W2, W2 = setBlock w1 r (.mapIter (some bm) since (seen.push e.born) clock) := ⟨_, rfl⟩
      rw [← hW2] at hs2 hoth hsz hM hrun
      have hMw : Mem.le (mem A η σs w) (mem A η σs W2) := fun b o v h => hM _ _ _ (hx1.mem _ _ _ h)
      have hbr : bm ≠ r := fun e => by rw [e, i1] at i2; cases i2
      have j1 : W2.heap[r]? = some (.mapIter (some bm) since (seen.push e.born) clock) := by
        rw [hW2]; simp only [setBlock]; rw [Array.getElem?_setIfInBounds_self_of_lt]; rw [hh]; exact hrl
      have j2 : W2.heap[bm]? = some (.map es clock) := by rw [hoth bm hbr, hh]; exact i2
      have tb1 : Trans m σb ηb wb σs η W2 := by
        have t1 := tb0.trans (Trans.of_ext m hx1)
        refine { t1 with os := ?_, tape := ?_, output := ?_, size := by rw [hsz]; exact t1.size, keep := fun b hb hn => by rw [hoth b (by omega)]; exact t1.keep b hb hn }
        · rw [hW2]; exact t1.os
        · rw [hW2]; exact t1.tape
        · rw [hW2]; exact t1.output
      have hd1 : Marks n0 ds W2 := by
        obtain ⟨q1, Ds, q2, q3, q4⟩ := hd
        exact ⟨by rw [hsz, hh]; exact q1, Ds, q2, q3, fun D hD => ⟨(q4 D hD).1, by
          rw [hoth D (fun e => by have := (q4 D hD).2; rw [e, i1] at this; cases this), hh]; exact (q4 D hD).2⟩⟩
      have hee : e ∈ es.toList := by
        have : e ∈ (leftOf es seen).toList := he
        simp only [leftOf, Array.toList_filter, List.mem_filter] at this
        exact this.1
      obtain ⟨j, hj⟩ := List.getElem?_of_mem hee
      obtain ⟨r1, r2⟩ := relL_iff.1 i9
      obtain ⟨r3, r4⟩ := relL_iff.1 i10
      have hjl : j < ml.length := by have h9 := (List.getElem?_eq_some_iff.1 hj).1; have : ml.length = es.toList.length := by simpa using r1
                                     omega
      have hmj := List.getElem?_eq_getElem hjl
      obtain ⟨kd, vd, hkv⟩ : ∃ kd vd, ml[j] = (kd, vd) := ⟨_, _, rfl⟩
      have hmem : (kd, vd) ∈ ml := by rw [← hkv]; exact List.getElem_mem hjl
      have hk : Rel (mem A η σs w) kd e.key := r2 j _ _ (by rw [List.getElem?_map, hmj, hkv]; rfl) (by rw [List.getElem?_map, hj]; rfl)
      have hv : Rel (mem A η σs w) vd e.val := r4 j _ _ (by rw [List.getElem?_map, hmj, hkv]; rfl) (by rw [List.getElem?_map, hj]; rfl)
      refine wp_value (x := .tuple #[.bool true, e.key, e.val]) (w1 := W2) (by simp only [execOp, h3, hti hs (hEr r), Sem.run_bind, hrun, Result.andThen_ok, Sem.run_pure]) (hK _ _ ?_)
      rw [d3]
      refine step _ true [kd, vd] [e.key, e.val] W2 η hs2 (by simp only [RelL]; exact ⟨_, _, rfl, rel_mono hMw hk, _, _, rfl, rel_mono hMw hv, rfl⟩) (fun w2 η2 tmps2 hs3 ht3 => ?_)
      have hit2 : Pc kd vd → IterAt Pc A σs η ml r (leftOf es (seen.push e.born)).size W2 := fun hpc => ⟨bm, since, _, clock, es, clock, j1, j2, i3, i4, i5, by omega, Nat.le_refl _, i8', relL_mono hMw i9, relL_mono hMw i10, rfl, fun j' e' y' hj' hy' hse => by
        rw [Array.contains_push, Bool.or_eq_true] at hse
        rcases hse with hse | hse
        · exact i12 j' e' y' hj' hy' hse
        · have hse : e'.born = e.born := by have := eq_of_beq hse; omega
          have hlt1 : j' < (es.toList.map (·.born)).length := by have := (List.getElem?_eq_some_iff.1 hj').1; simpa using this
          have : j' = j := (List.getElem?_inj hlt1 i8').1 (by rw [List.getElem?_map, List.getElem?_map, hj', hj]; simp [hse])
          subst this
          rw [hmj] at hy'; cases hy'
          rw [hkv]; exact hpc⟩
      have k1 : w2.heap[r]? = some (.mapIter (some bm) since (seen.push e.born) clock) := (ht3.keep r (Array.getElem?_eq_some_iff.1 j1).1 i3).trans j1
      have k2 : w2.heap[bm]? = some (.map es clock) := (ht3.keep bm (Array.getElem?_eq_some_iff.1 j2).1 i4).trans j2
      have hM3 : Mem.le (mem A η σs w) (mem A η2 σs w2) := fun b o v h => ht3.mem_le _ _ _ (hMw _ _ _ h)
      have hEti : envOf ((tb, V.d (.lit (.bool true))) :: (ti, ptr r) :: l) ti = ptr r := by
        have h1' : Nat.beq ti tb = false := by cases hb : Nat.beq ti tb with | true => exact absurd (Nat.eq_of_beq_eq_true hb) e2 | false => rfl
        simp [envOf, h1']
      refine wpIn_seq (wpIn_cond_true ?_ (wpIn_skip ?_))
      · have := hs3.eval ds (.tmp tb)
        simpa [ev, envOf, RelV, Rel] using this
      refine wpIn_block (wpIn_seq (wpIn_region_lit (wpListIn_step fun K hK => ?_)))
      rw [if_pos (hwant o5 _ g5)]
      refine Oper.wpIn_of rd 0 (by rw [h5]; intro c h; cases h) ?_
      refine wp_value (x := .tuple #[e.key, e.val]) (w1 := w2) (by simp only [execOp, h5, hti hs3 hEti, Sem.run_bind, run_entry_at w2 r bm since seen es clock e k1 k2 hee i8', Result.andThen_ok, Sem.run_pure]) (hK _ _ ?_)
      rw [d5]
      have hs4 := hs3.next (Nxt.of_ext (m := m) (v := .d (.tuple [kd, vd])) (x := .tuple #[e.key, e.val]) hs3.sig (.refl w2) (by
        simp only [RelV, Rel]; exact ⟨[e.key, e.val], rfl, by simp only [RelL]; exact ⟨_, _, rfl, rel_mono hM3 hk, _, _, rfl, rel_mono hM3 hv, rfl⟩⟩)) (some te) (fun t h => by cases h; exact n4) (ds := ds)
      have hs5 : St A N σs η2 w2 (envOf ((te, .d (.tuple [kd, vd])) :: (ti, ptr r) :: l)) ((Act.mk tmps2 ds).put (some te) (.tuple #[e.key, e.val])).tmps := ⟨hs4.sig, hs4.size, fun t => vle_rel (by
        by_cases h1 : t = te
        · subst h1; exact .eq (by simp [upd, envOf])
        · have h1' : Nat.beq t te = false := by cases hb : Nat.beq t te with | true => exact absurd (Nat.eq_of_beq_eq_true hb) h1 | false => rfl
          by_cases h2 : t = tb
          · subst h2
            have : envOf ((te, V.d (.tuple [kd, vd])) :: (ti, ptr r) :: l) t = .any := by
              have h2' : Nat.beq t ti = false := by cases hb : Nat.beq t ti with | true => exact absurd (Nat.eq_of_beq_eq_true hb).symm e2 | false => rfl
              simp only [envOf, h1', h2', cond_false]
              exact hany t (.inr (.inr (.inl rfl)))
            rw [this]; exact .any
          · have h2' : Nat.beq t tb = false := by cases hb : Nat.beq t tb with | true => exact absurd (Nat.eq_of_beq_eq_true hb) h2 | false => rfl
            exact .eq (by simp only [upd, if_neg h1, envOf, h1', h2', cond_false])) (hs4.env t)⟩
      obtain ⟨tags, E', σ', hr8, _, hV⟩ := hbody r kd vd hmem
      have ea : ((Act.mk tmps2 ds).put (some te) (.tuple #[e.key, e.val])) = { tmps := ((Act.mk tmps2 ds).put (some te) (.tuple #[e.key, e.val])).tmps, defers := ds } := rfl
      rw [ea]
      have hd3 := hd1.trans hs2.sig ht3
      refine run_wp hT hS hr8 hm hs5 (fun w4 η4 tmps4 hs6 ht6 => ?_)
      refine wpIn_mono (hV rd 0 n0 A η4 w4 tmps4 ds hs6 (hd3.trans hs5.sig ht6) ?_) ?_
      · exact (ho.trans ht3).trans ht6
      rintro ex ⟨tm5, df5⟩ w5 ⟨E5, σ5, η5, hq, hs7, hd7, ht7⟩
      have hT5 : Trans m σb ηb wb σ5 η5 w5 := ((tb1.trans ht3).trans ht6).trans ht7
      rcases hq with ⟨hex, hpc, hwk⟩ | ⟨hn1, hn2, hq⟩
      · have hit5 := (((hit2 hpc).trans ht3).trans ht6).trans ht7
        obtain ⟨η6, hs8, ht8⟩ := hwk _ _ _ _ _ hs7
        have hfin := ih _ (by rw [← i11]; exact left_push he) η6 w5 tm5 df5 r (hT5.trans ht8) hrb hs8 (hd7.trans hs7.sig ht8) ((((ho.trans ht3).trans ht6).trans ht7).trans ht8) (hit5.trans ht8)
        rcases hex with rfl | rfl
        · simpa only [Exit.inBlock, Exit.then] using hfin
        · simpa only [Exit.inBlock, Exit.then, if_pos] using hfin
      · cases ex with
        | normal => exact absurd rfl hn1
        | exit b => exact absurd rfl (hn2 b)
        | _ => exact ⟨E5, σ5, η5, hq, hs7, hd7, hT5⟩
  obtain ⟨tags, E', σ', hr, _, hx, rfl, hkeep⟩ := hr6
  refine wpIn_seq (wpIn_region_lit (run_wp_app hT hS [o2] hr hm6 hs (fun w1 η1 tmps1 hs1 ht1 => ?_)))
  refine wpListIn_step fun K hK => ?_
  rw [if_pos (hwant o2 _ g2)]
  refine Oper.wpIn_of rd n (by rw [h2]; intro c h; cases h) ?_
  have hxv := hs1.eval ds x
  rw [hx] at hxv
  simp only [RelV] at hxv
  obtain ⟨_, bm, hη, hxv⟩ := hxv
  have hlast : (σs ++ [Obj.map ml])[σs.length]? = some (.map ml) := by simp
  have hob1 := hs1.sig.objs _ _ hlast
  simp only [ObjRel] at hob1
  obtain ⟨bm', ents, clock, hη', hheap, hkeys, hvals, hborn, hnd⟩ := hob1
  rw [hη] at hη'; simp at hη'; subst hη'
  have hbl := (Array.getElem?_eq_some_iff.1 hheap).1
  refine wp_value (x := .pointer (some ⟨w1.heap.size, 0, none⟩)) (w1 := w1.alloc (.mapIter (some bm) clock #[] clock)) ?_ (hK _ _ ?_)
  · simp only [execOp, h2, hxv, Sem.run_bind, run_range_map w1 mt kt vt bm ents clock hmt hheap, Result.andThen_ok, Sem.run_pure]
  have htk : (σs ++ [Obj.map ml]).take σs.length = σs := by simp
  have hs2 : St A N (σs ++ [Obj.map ml]) η1 w1 (envOf l) tmps1 := ⟨hs1.sig, hs1.size, fun t => vle_rel (keepOk_le hkeep t) (hs1.env t)⟩
  obtain ⟨hs3, ht3⟩ := trim_core (m := m) (n := σs.length) hm (by simp) (envOf_all (p := V.bnd σs.length) rfl hl) (by rw [htk]; exact hob) hs2
  rw [htk] at hs3 ht3
  have hnb : ¬ Owned η1 σs bm := by
    rintro ⟨j, o, hj, hd', hb⟩
    have hjl := (List.getElem?_eq_some_iff.1 hj).1
    have := hs1.sig.inj j σs.length o _ bm (by rw [List.getElem?_append_left hjl]; exact hj) hd' hlast (by simp) hb (by rw [hη]; rfl)
    omega
  have hxa : Ext w1 (w1.alloc (.mapIter (some bm) clock #[] clock)) := .alloc w1 _
  rw [d2]
  have hs4 := hs3.next (Nxt.of_ext (m := m) (v := ptr w1.heap.size) (x := .pointer (some ⟨w1.heap.size, 0, none⟩)) hs3.sig hxa (by simp only [ptr, RelV, Rel])) (some ti) (fun t h => by cases h; exact n1) (ds := ds)
  have ht4 : Trans m σs η1 w1 σs η1 (w1.alloc (.mapIter (some bm) clock #[] clock)) := Trans.of_ext m hxa
  have hs5 : St A N σs η1 (w1.alloc (.mapIter (some bm) clock #[] clock)) (Er w1.heap.size) ((Act.mk tmps1 ds).put (some ti) (.pointer (some ⟨w1.heap.size, 0, none⟩))).tmps := ⟨hs4.sig, hs4.size, fun t => vle_rel (by
    by_cases h1 : t = ti
    · subst h1; rw [hEr]; exact .eq (by simp [upd])
    · rw [hErl _ _ h1]; exact .eq (by simp only [upd, if_neg h1])) (hs4.env t)⟩
  have hTT := (ht1.trans ht3).trans ht4
  have hMx : Mem.le (mem A η1 (σs ++ [Obj.map ml]) w1) (mem A η1 σs (w1.alloc (.mapIter (some bm) clock #[] clock))) := fun b o v h => ht4.mem_le _ _ _ (ht3.mem_le _ _ _ h)
  have hit : IterAt Pc A σs η1 ml w1.heap.size (leftOf ents #[]).size (w1.alloc (.mapIter (some bm) clock #[] clock)) :=
    ⟨bm, clock, #[], clock, ents, clock, World.alloc_heap_new w1 _, (hxa.keep bm hbl).trans hheap, fun h => by have := (hs3.sig.out _ h).2; omega, hnb, hborn, Nat.le_refl _, Nat.le_refl _, hnd, relL_mono hMx hkeys, relL_mono hMx hvals, rfl, fun j e y _ _ h => by simp at h⟩
  have hkey := key σ η w _ η1 _ _ ds w1.heap.size hTT ht1.size hs5 (((hd.trans hs.sig ht1).trans hs1.sig ht3).trans hs3.sig ht4) ((ho.trans ht1).trans ht3) hit
  refine wpIn_block (wpIn_mono (RW.loop hkey) ?_)
  rintro e a w' ⟨E', σ', η', q, s, d, t⟩
  cases e with
  | exit id' =>
    simp only [Exit.inBlock]
    simp only [QBlock] at q
    split
    · rename_i he; rw [if_pos he] at q; exact ⟨E', σ', η', q, s, d, t⟩
    · rename_i he; rw [if_neg he] at q; exact ⟨E', σ', η', q, s, d, t⟩
  | _ => exact ⟨E', σ', η', q, s, d, t⟩
theorem vc_mapRange2 {P : Program} {T : Tab} (hT : TabOk P T) (hS : Sized T) {m N i6 i7 i8 b0 b1 : Nat} {l6 l8 : List Oper} {o2 o3 o4 o5 : Oper} {x : Operand} {ti tn tb te : Tmp} {mt kt vt : TypeId} {ik : IntKind} {body : Code} {Q : Post} {E : Env} {σ σs : Sig} (l : List (Nat × V)) (ml : List (D × D)) (Pc : D → D → Prop)
    (hm6 : Nat.ble m σ.length = true) (hl6 : l6.getLast? = some o2) (hr6 : RunQ P T N l6.toArray (fun _ => true) [] l6.dropLast (fun E' σ' => ev E' x = .omap σs.length ∧ σ' = σs ++ [.map ml] ∧ KeepOk E' l) E σ)
    (h2 : o2.op = .range mt x) (g2 : o2.guard = none) (d2 : o2.dst = some ti) (h3 : o3.op = .next (.tmp ti) false) (g3 : o3.guard = none) (d3 : o3.dst = some tn) (h4 : o4.op = .extract (.tmp tn) 0) (g4 : o4.guard = none) (d4 : o4.dst = some tb)
    (h5 : o5.op = .entry (.tmp ti)) (g5 : o5.guard = none) (d5 : o5.dst = some te) (hmt : mapT T mt = some (kt, vt, ik)) (hlt : (Nat.blt ti N && Nat.blt tn N && Nat.blt tb N && Nat.blt te N) = true) (hne : (ti != tn && ti != tb && ti != te && tn != tb && tn != te && tb != te) = true)
    (hl : l.all (fun x => x.2.bnd σs.length) = true) (hno : l.all (fun x => x.1 != ti && x.1 != tn && x.1 != tb && x.1 != te) = true) (hm : Nat.ble m σs.length = true) (hob : σs.all (Obj.bnd σs.length) = true) (hdone : (∀ y ∈ ml, Pc y.1 y.2) → Q .normal (envOf l) σs)
    (hbody : ∀ r key val, (key, val) ∈ ml → RunQ P T N (o5 :: l8).toArray (fun _ => true) [] l8 (fun E' σ' => VC P m N body (fun e E2 σ2 => ((e = .normal ∨ e = .exit b1) ∧ Pc key val ∧ Weak m E2 σ2 (envOf ((ti, .d (.lit (.pointer (some ⟨r, 0, none⟩)))) :: l)) σs) ∨ (e ≠ .normal ∧ (∀ b, e ≠ .exit b) ∧ Q e E2 σ2)) E' σ')
      (envOf ((te, .d (.tuple [key, val])) :: (ti, .d (.lit (.pointer (some ⟨r, 0, none⟩)))) :: l)) σs) :
    VC P m N (.seq (.region i6 l6.toArray false) (.block b0 (.loop (.seq (.region i7 [o3, o4].toArray false) (.seq (.cond (.tmp tb) .skip (.exit b0)) (.block b1 (.seq (.region i8 (o5 :: l8).toArray false) body))))))) Q E σ := by
  obtain ⟨l7, rfl⟩ : ∃ l7, l6 = l7 ++ [o2] := List.getLast?_eq_some_iff.1 hl6
  rw [List.dropLast_concat] at hr6
  exact vc_mapRange hT hS l ml Pc (Nat.le_of_ble_eq_true hm6) hr6 h2 g2 d2 h3 g3 d3 h4 g4 d4 h5 g5 d5 (mapT_eq hT hmt).1 hlt hne hl hno (Nat.le_of_ble_eq_true hm) hob hdone hbody
theorem any_no {k : IntKind} {m : List (Int × Int)} {p : Int × Int → Bool} (h : ∀ y ∈ ents k (m.map fun y => (y.1, D.lit (.int .i64 y.2))), ∃ z ∈ m, (y.1, y.2) = (D.lit (.int k z.1), D.lit (.int .i64 z.2)) ∧ p z = false) : m.any p = false := by
  rw [List.any_eq_false]
  intro y hy
  obtain ⟨z, _, h1, h2⟩ := h (.lit (.int k y.1), .lit (.int .i64 y.2)) (by
    unfold ents
    rw [List.map_map]
    exact List.mem_map.2 ⟨y, hy, rfl⟩)
  simp at h1
  have : y = z := Prod.ext h1.1 h1.2
  rw [this, h2]; simp
theorem all_some {α β : Type} {p : α → Option β} {d : β} {l : List α} {a : α} (h : l.all (fun a => (p a).isSome) = true) (ha : a ∈ l) : p a = some ((p a).getD d) := by
  rw [List.all_eq_true] at h
  have := h a ha
  cases hp : p a with
  | none => rw [hp] at this; simp at this
  | some b => rfl
def mgetT {α : Type} (n : Int) (z : α) (m : List (Int × α)) : α := match m.findIdx? (fun y => y.1 == n) with | some j => ((m[j]?).map (·.2)).getD z | none => z
def mputT {α : Type} (n : Int) (v : α) (m : List (Int × α)) : List (Int × α) := match m.findIdx? (fun y => y.1 == n) with | some j => m.set j (n, v) | none => m ++ [(n, v)]
theorem mfind_T {α : Type} {f : α → D} {n : Int} {m : List (Int × α)} : (m.map fun y => (y.1, f y.2)).findIdx? (fun y => y.1 == n) = m.findIdx? (fun y => y.1 == n) := by rw [List.findIdx?_map]; rfl
theorem mgetD_T {α : Type} (f : α → D) {n : Int} {z : α} {m : List (Int × α)} : mgetD n (m.map fun y => (y.1, f y.2)) (f z) = f (mgetT n z m) := by
  unfold mgetD mgetT
  rw [mfind_T]
  cases h : m.findIdx? (fun y => y.1 == n) with
  | none => rfl
  | some j =>
    obtain ⟨hj, _⟩ := List.findIdx?_eq_some_iff_getElem.1 h
    simp [hj]
theorem mput_T {α : Type} (f : α → D) {n : Int} {v : α} {m : List (Int × α)} : mput n (f v) (m.map fun y => (y.1, f y.2)) = (mputT n v m).map fun y => (y.1, f y.2) := by
  unfold mput mputT
  rw [mfind_T]
  cases h : m.findIdx? (fun y => y.1 == n) with
  | none => simp
  | some j => simp [List.map_set]
section
variable {P : Program} {T : Tab} {N : Nat} {ops : Array Oper} {chk : List Tag → Bool} {acc : List Tag} {l : List Oper} {Q : Env → Sig → Prop} {E : Env} {σ : Sig} {o : Oper} {t : Tmp}
theorem rmlT {α : Type} (f : α → D) (z : α) (m : List (Int × α)) {s key el : TypeId} {x i : Operand} {kk : IntKind} {kn : Nat} {n : Int} {zv : Value} (hg : guardV ops E o = some true) (h : o.op = .lookup s x i false) (hx : ev E x = .omap kn) (hi : ev E i = .d (.lit (.int kk n))) (hk : σ[kn]? = some (.map (ents kk (m.map fun y => (y.1, f y.2))))) (ht : mapT T s = some (key, el, kk)) (hz : (P.info? el).map (·.zero) = some (some zv)) (hzz : f z = .lit zv) (hd : o.dst = some t) (hN : Nat.blt t N = true)
    (k : RunQ P T N ops chk (.read :: acc) l Q (upd1 E t (.d (f (mgetT n z m)))) σ) : RunQ P T N ops chk acc (o :: l) Q E σ := rml hg h hx hi hk ht hz hd hN (by rw [← hzz, mgetD_T]; exact k)
theorem rmuT {α : Type} (f : α → D) (v : α) (m : List (Int × α)) {s key el : TypeId} {x i y : Operand} {kk : IntKind} {kn : Nat} {n : Int} (hg : guardV ops E o = some true) (h : o.op = .mapUpdate s x i y) (hx : ev E x = .omap kn) (hi : ev E i = .d (.lit (.int kk n))) (hy : ev E y = .d (f v)) (hk : σ[kn]? = some (.map (ents kk (m.map fun y => (y.1, f y.2))))) (ht : mapT T s = some (key, el, kk)) (hd : o.dst = none)
    (k : RunQ P T N ops chk (.write :: acc) l Q E (σ.set kn (.map (ents kk ((mputT n v m).map fun y => (y.1, f y.2)))))) : RunQ P T N ops chk acc (o :: l) Q E σ := rmu hg h hx hi hy hk ht hd (by rw [mput_T]; exact k)
end
theorem elN {α β : Type} {x : Option α} {a r : β} {f : α → β} (c : x = none) (h : Option.elim x a f = r) : a = r := by subst c; exact h
theorem elS {α β : Type} {x : Option α} {a r : β} {f : α → β} {v : α} (c : x = some v) (h : Option.elim x a f = r) : f v = r := by subst c; exact h
end Go.VM
namespace Go.VM.Tryz
open Go.Proofs
def encSideS (s : Side) : D := .agg [I s.l.nodes, I s.l.data, I s.me, encNears s.near, I s.frame]
def encSideO : Option Side → D
 | none => .lit (.pointer none)
 | some s => .ptr (encSideS s).cells
def kWithin (n : Int) (high : Int) : Bool := ((decide (n ≥ 0)) && (decide (n ≤ high)))
theorem kWithin_ok (n : Int) (high : Int) (r : Bool) (h : kWithin n high = r) : PCalls Tryz.prog 36 [I n, I high] (B r) := by
 unfold kWithin at h
 refine xe 12 Tryz.func36 ?_
 refine xsr ?_
 refine xp ?_
 refine xq ?_
 refine vc_seq ?_
 refine vc_midQ [(4, .d (B ((decide (n ≥ 0)) && (decide (n ≤ high)))))] [] ?_ ?_
 ·refine xr ?_
  iterate 3 refine xp ?_
  cases c1 : decide (n ≥ 0) with
  | true =>
   iterate 5 refine xp ?_
   refine xq ?_
   exact xm [] .nil (xh1 trivial)
  | false =>
   iterate 3 refine xs ?_
   iterate 2 refine xp ?_
   refine xq ?_
   exact xm [] .nil (xh1 trivial)
 ·refine vc_ret ⟨.inr rfl, [B ((decide (n ≥ 0)) && (decide (n ≤ high)))], (.cons rfl ⟨_, .d, .refl⟩ .nil), ?_⟩
  first | (rw [← h]; done) | (rw [← h]; rfl) | (rw [← h]; simp)
def kGrantEntry (a0 : Grant) : Grant := a0
theorem kGrantEntry_ok (a0 : Grant) (r : Grant) (h : kGrantEntry a0 = r) : PCalls Tryz.prog 95 [encGrant a0] (encGrant r) := by
 unfold kGrantEntry at h
 refine xe 4 Tryz.func95 ?_
 refine xsr ?_
 refine xa ?_
 refine xa ?_
 refine xq ?_
 refine vc_seq ?_
 refine xk [1] [(1, .d (.ptr (encGrant a0).cells)), (2, .own 0 0)] (σ' := [.cells [.d (I 0), .d (I 0), .d (I 0), .d (I 0), .d (I 0)]]) (.cons rfl (.cells (.cons (.h rfl rfl) (.cons (.h rfl rfl) (.cons (.h rfl rfl) (.cons (.h rfl rfl) (.cons (.h rfl rfl) .nil)))))) .nil) ⟨.z (.own' rfl (.cons .d (.cons .d (.cons .d (.cons .d (.cons .d .nil)))))) .refl, (xh1 trivial)⟩ ?_
 refine xr ?_
 refine xp ?_
 refine xw ?_
 refine xq ?_
 refine vc_ret ⟨.inr rfl, [encGrant a0], (.cons rfl ⟨_, .d, .refl⟩ .nil), ?_⟩
 first | (rw [← h]; done) | (rw [← h]; rfl) | (rw [← h]; simp)
def kUseEntry (a0 : Use) : Use := a0
theorem kUseEntry_ok (a0 : Use) (r : Use) (h : kUseEntry a0 = r) : PCalls Tryz.prog 108 [encUse a0] (encUse r) := by
 unfold kUseEntry at h
 refine xe 4 Tryz.func108 ?_
 refine xsr ?_
 refine xa ?_
 refine xa ?_
 refine xq ?_
 refine vc_seq ?_
 refine xk [1] [(1, .d (.ptr (encUse a0).cells)), (2, .own 0 0)] (σ' := [.cells [.d (I 0), .d (I 0), .d (I 0), .d (I 0)]]) (.cons rfl (.cells (.cons (.h rfl rfl) (.cons (.h rfl rfl) (.cons (.h rfl rfl) (.cons (.h rfl rfl) .nil))))) .nil) ⟨.z (.own' rfl (.cons .d (.cons .d (.cons .d (.cons .d .nil))))) .refl, (xh1 trivial)⟩ ?_
 refine xr ?_
 refine xp ?_
 refine xw ?_
 refine xq ?_
 refine vc_ret ⟨.inr rfl, [encUse a0], (.cons rfl ⟨_, .d, .refl⟩ .nil), ?_⟩
 first | (rw [← h]; done) | (rw [← h]; rfl) | (rw [← h]; simp)
def f170 (a0 : Use) : Cell := a0.cell
theorem f170_ok (a0 : Use) (r : Cell) (h : f170 a0 = r) : PCalls Tryz.prog 170 [encUse a0] (encCell r) := by
 unfold f170 at h
 refine xe 5 Tryz.func170 ?_
 refine xsr ?_
 refine xa ?_
 refine xa ?_
 refine xq ?_
 refine vc_seq ?_
 refine xk [1] [(1, .d (.ptr (encUse a0).cells)), (2, .own 0 0)] (σ' := [.cells [.d (I 0), .d (I 0)]]) (.cons rfl (.cells (.cons (.h rfl rfl) (.cons (.h rfl rfl) .nil))) .nil) ⟨.z (.own' rfl (.cons .d (.cons .d (.cons .d (.cons .d .nil))))) .refl, (xh1 trivial)⟩ ?_
 refine xr ?_
 iterate 2 refine xp ?_
 refine xw ?_
 refine xq ?_
 refine vc_ret ⟨.inr rfl, [encCell a0.cell], (.cons rfl ⟨_, .d, .refl⟩ .nil), ?_⟩
 first | (rw [← h]; done) | (rw [← h]; rfl) | (rw [← h]; simp)
def f169 (a0 : Cell) (peer : Int) (a2 : Layout) : Bool := ((decide (a0.slot ≥ 0)) && ((decide (a0.slot < a2.data)) && ((decide (a0.offset ≥ 0)) && ((decide (a0.offset < 16)) && ((decide (peer ≥ 0)) && (decide (peer < a2.nodes)))))))
theorem f169_ok (a0 : Cell) (peer : Int) (a2 : Layout) (r : Bool) (h : f169 a0 peer a2 = r) : PCalls Tryz.prog 169 [encCell a0, I peer, encLayout a2] (B r) := by
 unfold f169 at h
 refine xe 37 Tryz.func169 ?_
 refine xsr ?_
 refine xa ?_
 refine xa ?_
 refine xp ?_
 refine xq ?_
 refine vc_seq ?_
 refine xk [] [(1, .d (I peer)), (3, .d (.ptr [I a0.slot, I a0.offset])), (5, .d (.ptr [I a2.nodes, I a2.data]))] .nil (xh1 ⟨.z (.own' rfl (.cons .d (.cons .d .nil))) .refl, ⟨.z (.own' rfl (.cons .d (.cons .d .nil))) .refl, trivial⟩⟩) ?_
 refine vc_midQ [(6, .d (B ((decide (a0.slot ≥ 0)) && ((decide (a0.slot < a2.data)) && ((decide (a0.offset ≥ 0)) && ((decide (a0.offset < 16)) && ((decide (peer ≥ 0)) && (decide (peer < a2.nodes)))))))))] [] ?_ ?_
 ·refine xr ?_
  iterate 4 refine xp ?_
  cases c1 : decide (a0.slot ≥ 0) with
  | true =>
   iterate 7 refine xp ?_
   cases c2 : decide (a0.slot < a2.data) with
   | true =>
    iterate 5 refine xp ?_
    cases c3 : decide (a0.offset ≥ 0) with
    | true =>
     iterate 5 refine xp ?_
     cases c4 : decide (a0.offset < 16) with
     | true =>
      iterate 4 refine xp ?_
      cases c5 : decide (peer ≥ 0) with
      | true =>
       iterate 6 refine xp ?_
       refine xq ?_
       exact xm [] .nil (xh1 trivial)
      | false =>
       iterate 4 refine xs ?_
       iterate 2 refine xp ?_
       refine xq ?_
       exact xm [] .nil (xh1 trivial)
     | false =>
      iterate 2 refine xs ?_
      iterate 2 refine xp ?_
      iterate 4 refine xs ?_
      iterate 2 refine xp ?_
      refine xq ?_
      exact xm [] .nil (xh1 trivial)
    | false =>
     iterate 3 refine xs ?_
     iterate 2 refine xp ?_
     iterate 2 refine xs ?_
     iterate 2 refine xp ?_
     iterate 4 refine xs ?_
     iterate 2 refine xp ?_
     refine xq ?_
     exact xm [] .nil (xh1 trivial)
   | false =>
    iterate 3 refine xs ?_
    iterate 2 refine xp ?_
    iterate 3 refine xs ?_
    iterate 2 refine xp ?_
    iterate 2 refine xs ?_
    iterate 2 refine xp ?_
    iterate 4 refine xs ?_
    iterate 2 refine xp ?_
    refine xq ?_
    exact xm [] .nil (xh1 trivial)
  | false =>
   iterate 5 refine xs ?_
   iterate 2 refine xp ?_
   iterate 3 refine xs ?_
   iterate 2 refine xp ?_
   iterate 3 refine xs ?_
   iterate 2 refine xp ?_
   iterate 2 refine xs ?_
   iterate 2 refine xp ?_
   iterate 4 refine xs ?_
   iterate 2 refine xp ?_
   refine xq ?_
   exact xm [] .nil (xh1 trivial)
 ·refine vc_ret ⟨.inr rfl, [B ((decide (a0.slot ≥ 0)) && ((decide (a0.slot < a2.data)) && ((decide (a0.offset ≥ 0)) && ((decide (a0.offset < 16)) && ((decide (peer ≥ 0)) && (decide (peer < a2.nodes)))))))], (.cons rfl ⟨_, .d, .refl⟩ .nil), ?_⟩
  first | (rw [← h]; done) | (rw [← h]; rfl) | (rw [← h]; simp)
def f171 (a0 : Use) (a1 : Layout) : Bool := ((f169 a0.cell a0.peer a1) && ((decide (a0.stamp ≥ 0)) && (decide (a0.stamp ≤ 1000000000))))
theorem f171_ok (a0 : Use) (a1 : Layout) (r : Bool) (h : f171 a0 a1 = r) : PCalls Tryz.prog 171 [encUse a0, encLayout a1] (B r) := by
 unfold f171 at h
 refine xe 21 Tryz.func171 ?_
 refine xsr ?_
 refine xa ?_
 refine xa ?_
 refine xp ?_
 refine xq ?_
 refine vc_seq ?_
 refine xk [] [(2, .d (.ptr (encUse a0).cells)), (3, .d (.ptr [I a1.nodes, I a1.data]))] .nil ⟨.z (.own' rfl (.cons .d (.cons .d (.cons .d (.cons .d .nil))))) .refl, .z (.own' rfl (.cons .d (.cons .d .nil))) .refl, trivial⟩ ?_
 refine vc_midQ [(4, .d (B ((f169 a0.cell a0.peer a1) && ((decide (a0.stamp ≥ 0)) && (decide (a0.stamp ≤ 1000000000))))))] [] ?_ ?_
 ·refine xr ?_
  iterate 5 refine xp ?_
  refine xc (f169_ok a0.cell a0.peer a1 _ rfl) ?_
  refine xp ?_
  cases c1 : (f169 a0.cell a0.peer a1) with
  | true =>
   iterate 5 refine xp ?_
   cases c2 : decide (a0.stamp ≥ 0) with
   | true =>
    iterate 5 refine xp ?_
    refine xq ?_
    exact xm [] .nil (xh1 trivial)
   | false =>
    iterate 3 refine xs ?_
    iterate 2 refine xp ?_
    refine xq ?_
    exact xm [] .nil (xh1 trivial)
  | false =>
   iterate 3 refine xs ?_
   iterate 2 refine xp ?_
   iterate 3 refine xs ?_
   iterate 2 refine xp ?_
   refine xq ?_
   exact xm [] .nil (xh1 trivial)
 ·refine vc_ret ⟨.inr rfl, [B ((f169 a0.cell a0.peer a1) && ((decide (a0.stamp ≥ 0)) && (decide (a0.stamp ≤ 1000000000))))], (.cons rfl ⟨_, .d, .refl⟩ .nil), ?_⟩
  first | (rw [← h]; done) | (rw [← h]; rfl) | (rw [← h]; simp)
def kEntU_L1 (p_as : Use → Option (Use)) : List Use → (List Use) → Option (List Use)
 | [], p1 => some p1
 | x3 :: l, p1 => Option.bind (p_as x3) fun v5 => cond (decide (p1.length + 1 ≤ 4294967296)) (kEntU_L1 p_as l (p1 ++ [v5])) none
def kEntU (a0 : (List Use)) (p_as : Use → Option (Use)) : Option ((List Use)) := Option.bind (kEntU_L1 p_as a0 []) fun v4 => some v4
theorem kEntU_ok {g_as : FuncId} {c_as : List D} (a0 : (List Use)) (p_as : Use → Option (Use)) (hp_as : ∀ (y0 : Use) r, p_as y0 = some r → PCalls Tryz.prog g_as ((encUse y0) :: c_as) (encUse r)) (r : (List Use)) (h : kEntU a0 p_as = some r) : PCalls Tryz.prog 113 [.list 4 (a0.map encUse), .fn (.func g_as) [] c_as] (.list 4 (r.map encUse)) := by
 unfold kEntU at h
 refine xe 22 Tryz.func113 ?_
 refine xsr ?_
 refine xp ?_
 refine xq ?_
 refine xsr ?_
 refine xp ?_
 refine xq ?_
 refine vc_seq ?_
 refine xsr ?_
 refine xp ?_
 refine xl ?_
 refine xp ?_
 refine xq ?_
 refine VC.weak (weak_ownNil 5 149 4 rfl rfl) ?_
 obtain ⟨v4, hv4, hLv4⟩ := bindO h
 refine vc_midQ [(5, .osl 0 v4.length)] [.arr 149 4 (v4.map encUse)] ?_ ?_
 ·refine vc_block ?_
  refine vc_loop ?_
  refine xK [0] [(1, .d (.fn (.func g_as) [] c_as)), (5, .osl 0 0), (8, .d (.list 4 (a0.map encUse))), (9, .d (I (a0.length : Int))), (10, .d (I 0))] (σ' := [.arr 149 4 ([].map encUse)]) (.cons rfl (.arr (by first | rfl | (simp <;> rfl))) .nil) (xh5 trivial) ?_
  refine vcl_len 8 rfl (fun hlen => ?_)
  replace hlen := len_map hlen
  refine vcl_rec a0 (fun (pre l : List Use) (s : List Use) => kEntU_L1 p_as l s) (some v4) (fun pre s => envOf [(1, .d (.fn (.func g_as) [] c_as)), (5, .osl 0 s.length), (8, .d (.list 4 (a0.map encUse))), (9, .d (I (a0.length : Int))), (10, .d (I (pre.length : Int)))]) (fun pre s => [.arr 149 4 (s.map encUse)]) ?step1 ?done1 [] hv4
  case step1 =>
   rintro pre x3 l p1 hpre hlt h ih
   have hprex3 := hpre
   replace h : kEntU_L1 p_as (x3 :: l) p1 = some v4 := h
   show VCL _ _ _ _ _ (envOf _) (_ :: _)
   obtain ⟨i2, hi⟩ : ∃ i : Int, i = (pre.length : Int) := ⟨_, rfl⟩
   have hix3 := hi
   rw [← hi]
   rw [kEntU_L1] at h
   refine vcl_unroll ?_
   refine xsr ?_
   refine xp ?_
   refine xq ?_
   refine vc_seq ?_
   refine vc_cond rfl (fun _ => ?_) (fun hf => absurd hf (by simp; omega))
   refine vc_skip ?_
   refine vc_seq ?_
   refine vc_block ?_
   refine xsr ?_
   refine ri rfl rfl rfl rfl rfl rfl rfl (by omega) (by rw [hix3]; exact idxp hprex3) ?_
   refine xp ?_
   refine xa ?_
   refine xw ?_
   refine xq ?_
   refine xk [0] [(1, .d (.fn (.func g_as) [] c_as)), (5, .osl 0 p1.length), (7, .d (.ptr (encUse x3).cells)), (8, .d (.list 4 (a0.map encUse))), (9, .d (I (a0.length : Int))), (10, .d (I i2))] (σ' := [.arr 149 4 (p1.map encUse)]) (.cons rfl (.arr (by first | rfl | (simp <;> rfl))) .nil) (xh2 ⟨.z (.own' rfl (.cons .d (.cons .d (.cons .d (.cons .d .nil))))) .refl, (xh3 trivial)⟩) ?_
   refine xr ?_
   iterate 3 refine xp ?_
   obtain ⟨v5, hv5, h⟩ := bindO h
   refine xc (hp_as x3 _ hv5) ?_
   refine xb ?_
   obtain ⟨g6, h⟩ := gd h; replace g6 := dT g6
   refine rap rfl rfl rfl rfl rfl rfl rfl rfl .list rfl rfl rfl rfl (by simp) (by simp; omega) (by simp; omega) ?_
   refine xp ?_
   refine xq ?_
   refine xr ?_
   iterate 2 refine xp ?_
   refine xq ?_
   exact xv [0] (ih (p1 ++ [v5]) h) (.cons rfl (.arr (by first | rfl | (simp <;> rfl))) .nil) (xh1 ⟨.h (oslE rfl (by first | rfl | (simp <;> rfl) | (simp only [List.length_take]; omega))) rfl, (xh2 ⟨.e rfl (cntI hi hlt hlen), trivial⟩)⟩)
  case done1 =>
   rintro p1 h
   replace h : kEntU_L1 p_as [] p1 = some v4 := h
   rw [kEntU_L1] at h
   show VCL _ _ _ _ _ (envOf _) (_ :: _)
   refine vcl_unroll ?_
   refine xsr ?_
   refine xp ?_
   refine xq ?_
   refine vc_seq ?_
   refine vc_cond rfl (fun ht => absurd ht (by simp; try omega)) (fun _ => ?_)
   refine vc_exit ?_
   cases h
   exact xm [0] (.cons rfl (.arr (by first | rfl | (simp <;> rfl))) .nil) (xh1 trivial)
 ·have h := hLv4
  refine vc_seq ?_
  refine xk [] [(5, .d (.list 4 (v4.map encUse)))] .nil ⟨.z (.osl rfl (by simp)) .refl, trivial⟩ ?_
  refine xr ?_
  iterate 2 refine xp ?_
  refine xq ?_
  replace h := Option.some.inj h
  refine vc_ret ⟨.inr rfl, [.list 4 (v4.map encUse)], (.cons rfl ⟨_, .d, .refl⟩ .nil), ?_⟩
  first | (rw [← h]; done) | (rw [← h]; rfl) | (rw [← h]; simp)
def f167 (a0 : Grant) : Cell := a0.cell
theorem f167_ok (a0 : Grant) (r : Cell) (h : f167 a0 = r) : PCalls Tryz.prog 167 [encGrant a0] (encCell r) := by
 unfold f167 at h
 refine xe 5 Tryz.func167 ?_
 refine xsr ?_
 refine xa ?_
 refine xa ?_
 refine xq ?_
 refine vc_seq ?_
 refine xk [1] [(1, .d (.ptr (encGrant a0).cells)), (2, .own 0 0)] (σ' := [.cells [.d (I 0), .d (I 0)]]) (.cons rfl (.cells (.cons (.h rfl rfl) (.cons (.h rfl rfl) .nil))) .nil) ⟨.z (.own' rfl (.cons .d (.cons .d (.cons .d (.cons .d (.cons .d .nil)))))) .refl, (xh1 trivial)⟩ ?_
 refine xr ?_
 iterate 2 refine xp ?_
 refine xw ?_
 refine xq ?_
 refine vc_ret ⟨.inr rfl, [encCell a0.cell], (.cons rfl ⟨_, .d, .refl⟩ .nil), ?_⟩
 first | (rw [← h]; done) | (rw [← h]; rfl) | (rw [← h]; simp)
def f168 (a0 : Grant) (a1 : Layout) : Bool := ((f169 a0.cell a0.peer a1) && ((decide (a0.stamp ≥ 0)) && ((decide (a0.stamp ≤ a0.til)) && (decide (a0.til ≤ 1000000000)))))
theorem f168_ok (a0 : Grant) (a1 : Layout) (r : Bool) (h : f168 a0 a1 = r) : PCalls Tryz.prog 168 [encGrant a0, encLayout a1] (B r) := by
 unfold f168 at h
 refine xe 28 Tryz.func168 ?_
 refine xsr ?_
 refine xa ?_
 refine xa ?_
 refine xp ?_
 refine xq ?_
 refine vc_seq ?_
 refine xk [] [(2, .d (.ptr (encGrant a0).cells)), (3, .d (.ptr [I a1.nodes, I a1.data]))] .nil ⟨.z (.own' rfl (.cons .d (.cons .d (.cons .d (.cons .d (.cons .d .nil)))))) .refl, .z (.own' rfl (.cons .d (.cons .d .nil))) .refl, trivial⟩ ?_
 refine vc_midQ [(4, .d (B ((f169 a0.cell a0.peer a1) && ((decide (a0.stamp ≥ 0)) && ((decide (a0.stamp ≤ a0.til)) && (decide (a0.til ≤ 1000000000)))))))] [] ?_ ?_
 ·refine xr ?_
  iterate 5 refine xp ?_
  refine xc (f169_ok a0.cell a0.peer a1 _ rfl) ?_
  refine xp ?_
  cases c1 : (f169 a0.cell a0.peer a1) with
  | true =>
   iterate 5 refine xp ?_
   cases c2 : decide (a0.stamp ≥ 0) with
   | true =>
    iterate 7 refine xp ?_
    cases c3 : decide (a0.stamp ≤ a0.til) with
    | true =>
     iterate 5 refine xp ?_
     refine xq ?_
     exact xm [] .nil (xh1 trivial)
    | false =>
     iterate 3 refine xs ?_
     iterate 2 refine xp ?_
     refine xq ?_
     exact xm [] .nil (xh1 trivial)
   | false =>
    iterate 5 refine xs ?_
    iterate 2 refine xp ?_
    iterate 3 refine xs ?_
    iterate 2 refine xp ?_
    refine xq ?_
    exact xm [] .nil (xh1 trivial)
  | false =>
   iterate 3 refine xs ?_
   iterate 2 refine xp ?_
   iterate 5 refine xs ?_
   iterate 2 refine xp ?_
   iterate 3 refine xs ?_
   iterate 2 refine xp ?_
   refine xq ?_
   exact xm [] .nil (xh1 trivial)
 ·refine vc_ret ⟨.inr rfl, [B ((f169 a0.cell a0.peer a1) && ((decide (a0.stamp ≥ 0)) && ((decide (a0.stamp ≤ a0.til)) && (decide (a0.til ≤ 1000000000)))))], (.cons rfl ⟨_, .d, .refl⟩ .nil), ?_⟩
  first | (rw [← h]; done) | (rw [← h]; rfl) | (rw [← h]; simp)
def kEntG_L1 (p_as : Grant → Option (Grant)) : List Grant → (List Grant) → Option (List Grant)
 | [], p1 => some p1
 | x3 :: l, p1 => Option.bind (p_as x3) fun v5 => cond (decide (p1.length + 1 ≤ 4294967296)) (kEntG_L1 p_as l (p1 ++ [v5])) none
def kEntG (a0 : (List Grant)) (p_as : Grant → Option (Grant)) : Option ((List Grant)) := Option.bind (kEntG_L1 p_as a0 []) fun v4 => some v4
theorem kEntG_ok {g_as : FuncId} {c_as : List D} (a0 : (List Grant)) (p_as : Grant → Option (Grant)) (hp_as : ∀ (y0 : Grant) r, p_as y0 = some r → PCalls Tryz.prog g_as ((encGrant y0) :: c_as) (encGrant r)) (r : (List Grant)) (h : kEntG a0 p_as = some r) : PCalls Tryz.prog 115 [.list 5 (a0.map encGrant), .fn (.func g_as) [] c_as] (.list 5 (r.map encGrant)) := by
 unfold kEntG at h
 refine xe 22 Tryz.func115 ?_
 refine xsr ?_
 refine xp ?_
 refine xq ?_
 refine xsr ?_
 refine xp ?_
 refine xq ?_
 refine vc_seq ?_
 refine xsr ?_
 refine xp ?_
 refine xl ?_
 refine xp ?_
 refine xq ?_
 refine VC.weak (weak_ownNil 5 140 5 rfl rfl) ?_
 obtain ⟨v4, hv4, hLv4⟩ := bindO h
 refine vc_midQ [(5, .osl 0 v4.length)] [.arr 140 5 (v4.map encGrant)] ?_ ?_
 ·refine vc_block ?_
  refine vc_loop ?_
  refine xK [0] [(1, .d (.fn (.func g_as) [] c_as)), (5, .osl 0 0), (8, .d (.list 5 (a0.map encGrant))), (9, .d (I (a0.length : Int))), (10, .d (I 0))] (σ' := [.arr 140 5 ([].map encGrant)]) (.cons rfl (.arr (by first | rfl | (simp <;> rfl))) .nil) (xh5 trivial) ?_
  refine vcl_len 8 rfl (fun hlen => ?_)
  replace hlen := len_map hlen
  refine vcl_rec a0 (fun (pre l : List Grant) (s : List Grant) => kEntG_L1 p_as l s) (some v4) (fun pre s => envOf [(1, .d (.fn (.func g_as) [] c_as)), (5, .osl 0 s.length), (8, .d (.list 5 (a0.map encGrant))), (9, .d (I (a0.length : Int))), (10, .d (I (pre.length : Int)))]) (fun pre s => [.arr 140 5 (s.map encGrant)]) ?step1 ?done1 [] hv4
  case step1 =>
   rintro pre x3 l p1 hpre hlt h ih
   have hprex3 := hpre
   replace h : kEntG_L1 p_as (x3 :: l) p1 = some v4 := h
   show VCL _ _ _ _ _ (envOf _) (_ :: _)
   obtain ⟨i2, hi⟩ : ∃ i : Int, i = (pre.length : Int) := ⟨_, rfl⟩
   have hix3 := hi
   rw [← hi]
   rw [kEntG_L1] at h
   refine vcl_unroll ?_
   refine xsr ?_
   refine xp ?_
   refine xq ?_
   refine vc_seq ?_
   refine vc_cond rfl (fun _ => ?_) (fun hf => absurd hf (by simp; omega))
   refine vc_skip ?_
   refine vc_seq ?_
   refine vc_block ?_
   refine xsr ?_
   refine ri rfl rfl rfl rfl rfl rfl rfl (by omega) (by rw [hix3]; exact idxp hprex3) ?_
   refine xp ?_
   refine xa ?_
   refine xw ?_
   refine xq ?_
   refine xk [0] [(1, .d (.fn (.func g_as) [] c_as)), (5, .osl 0 p1.length), (7, .d (.ptr (encGrant x3).cells)), (8, .d (.list 5 (a0.map encGrant))), (9, .d (I (a0.length : Int))), (10, .d (I i2))] (σ' := [.arr 140 5 (p1.map encGrant)]) (.cons rfl (.arr (by first | rfl | (simp <;> rfl))) .nil) (xh2 ⟨.z (.own' rfl (.cons .d (.cons .d (.cons .d (.cons .d (.cons .d .nil)))))) .refl, (xh3 trivial)⟩) ?_
   refine xr ?_
   iterate 3 refine xp ?_
   obtain ⟨v5, hv5, h⟩ := bindO h
   refine xc (hp_as x3 _ hv5) ?_
   refine xb ?_
   obtain ⟨g6, h⟩ := gd h; replace g6 := dT g6
   refine rap rfl rfl rfl rfl rfl rfl rfl rfl .list rfl rfl rfl rfl (by simp) (by simp; omega) (by simp; omega) ?_
   refine xp ?_
   refine xq ?_
   refine xr ?_
   iterate 2 refine xp ?_
   refine xq ?_
   exact xv [0] (ih (p1 ++ [v5]) h) (.cons rfl (.arr (by first | rfl | (simp <;> rfl))) .nil) (xh1 ⟨.h (oslE rfl (by first | rfl | (simp <;> rfl) | (simp only [List.length_take]; omega))) rfl, (xh2 ⟨.e rfl (cntI hi hlt hlen), trivial⟩)⟩)
  case done1 =>
   rintro p1 h
   replace h : kEntG_L1 p_as [] p1 = some v4 := h
   rw [kEntG_L1] at h
   show VCL _ _ _ _ _ (envOf _) (_ :: _)
   refine vcl_unroll ?_
   refine xsr ?_
   refine xp ?_
   refine xq ?_
   refine vc_seq ?_
   refine vc_cond rfl (fun ht => absurd ht (by simp; try omega)) (fun _ => ?_)
   refine vc_exit ?_
   cases h
   exact xm [0] (.cons rfl (.arr (by first | rfl | (simp <;> rfl))) .nil) (xh1 trivial)
 ·have h := hLv4
  refine vc_seq ?_
  refine xk [] [(5, .d (.list 5 (v4.map encGrant)))] .nil ⟨.z (.osl rfl (by simp)) .refl, trivial⟩ ?_
  refine xr ?_
  iterate 2 refine xp ?_
  refine xq ?_
  replace h := Option.some.inj h
  refine vc_ret ⟨.inr rfl, [.list 5 (v4.map encGrant)], (.cons rfl ⟨_, .d, .refl⟩ .nil), ?_⟩
  first | (rw [← h]; done) | (rw [← h]; rfl) | (rw [← h]; simp)
def kEntA_L1 (p_as : Ask → Option (Ask)) : List Ask → (List Ask) → Option (List Ask)
 | [], p1 => some p1
 | x3 :: l, p1 => Option.bind (p_as x3) fun v5 => cond (decide (p1.length + 1 ≤ 4294967296)) (kEntA_L1 p_as l (p1 ++ [v5])) none
def kEntA (a0 : (List Ask)) (p_as : Ask → Option (Ask)) : Option ((List Ask)) := Option.bind (kEntA_L1 p_as a0 []) fun v4 => some v4
theorem kEntA_ok {g_as : FuncId} {c_as : List D} (a0 : (List Ask)) (p_as : Ask → Option (Ask)) (hp_as : ∀ (y0 : Ask) r, p_as y0 = some r → PCalls Tryz.prog g_as ((encAsk y0) :: c_as) (encAsk r)) (r : (List Ask)) (h : kEntA a0 p_as = some r) : PCalls Tryz.prog 117 [.list 3 (a0.map encAsk), .fn (.func g_as) [] c_as] (.list 3 (r.map encAsk)) := by
 unfold kEntA at h
 refine xe 22 Tryz.func117 ?_
 refine xsr ?_
 refine xp ?_
 refine xq ?_
 refine xsr ?_
 refine xp ?_
 refine xq ?_
 refine vc_seq ?_
 refine xsr ?_
 refine xp ?_
 refine xl ?_
 refine xp ?_
 refine xq ?_
 refine VC.weak (weak_ownNil 5 162 3 rfl rfl) ?_
 obtain ⟨v4, hv4, hLv4⟩ := bindO h
 refine vc_midQ [(5, .osl 0 v4.length)] [.arr 162 3 (v4.map encAsk)] ?_ ?_
 ·refine vc_block ?_
  refine vc_loop ?_
  refine xK [0] [(1, .d (.fn (.func g_as) [] c_as)), (5, .osl 0 0), (8, .d (.list 3 (a0.map encAsk))), (9, .d (I (a0.length : Int))), (10, .d (I 0))] (σ' := [.arr 162 3 ([].map encAsk)]) (.cons rfl (.arr (by first | rfl | (simp <;> rfl))) .nil) (xh5 trivial) ?_
  refine vcl_len 8 rfl (fun hlen => ?_)
  replace hlen := len_map hlen
  refine vcl_rec a0 (fun (pre l : List Ask) (s : List Ask) => kEntA_L1 p_as l s) (some v4) (fun pre s => envOf [(1, .d (.fn (.func g_as) [] c_as)), (5, .osl 0 s.length), (8, .d (.list 3 (a0.map encAsk))), (9, .d (I (a0.length : Int))), (10, .d (I (pre.length : Int)))]) (fun pre s => [.arr 162 3 (s.map encAsk)]) ?step1 ?done1 [] hv4
  case step1 =>
   rintro pre x3 l p1 hpre hlt h ih
   have hprex3 := hpre
   replace h : kEntA_L1 p_as (x3 :: l) p1 = some v4 := h
   show VCL _ _ _ _ _ (envOf _) (_ :: _)
   obtain ⟨i2, hi⟩ : ∃ i : Int, i = (pre.length : Int) := ⟨_, rfl⟩
   have hix3 := hi
   rw [← hi]
   rw [kEntA_L1] at h
   refine vcl_unroll ?_
   refine xsr ?_
   refine xp ?_
   refine xq ?_
   refine vc_seq ?_
   refine vc_cond rfl (fun _ => ?_) (fun hf => absurd hf (by simp; omega))
   refine vc_skip ?_
   refine vc_seq ?_
   refine vc_block ?_
   refine xsr ?_
   refine ri rfl rfl rfl rfl rfl rfl rfl (by omega) (by rw [hix3]; exact idxp hprex3) ?_
   refine xp ?_
   refine xa ?_
   refine xw ?_
   refine xq ?_
   refine xk [0] [(1, .d (.fn (.func g_as) [] c_as)), (5, .osl 0 p1.length), (7, .d (.ptr [I x3.cell.slot, I x3.cell.offset, I x3.peer])), (8, .d (.list 3 (a0.map encAsk))), (9, .d (I (a0.length : Int))), (10, .d (I i2))] (σ' := [.arr 162 3 (p1.map encAsk)]) (.cons rfl (.arr (by first | rfl | (simp <;> rfl))) .nil) (xh2 ⟨.z (.own' rfl (.cons .d (.cons .d (.cons .d .nil)))) .refl, (xh3 trivial)⟩) ?_
   refine xr ?_
   iterate 3 refine xp ?_
   obtain ⟨v5, hv5, h⟩ := bindO h
   refine xc (hp_as x3 _ hv5) ?_
   refine xb ?_
   obtain ⟨g6, h⟩ := gd h; replace g6 := dT g6
   refine rap rfl rfl rfl rfl rfl rfl rfl rfl .list rfl rfl rfl rfl (by simp) (by simp; omega) (by simp; omega) ?_
   refine xp ?_
   refine xq ?_
   refine xr ?_
   iterate 2 refine xp ?_
   refine xq ?_
   exact xv [0] (ih (p1 ++ [v5]) h) (.cons rfl (.arr (by first | rfl | (simp <;> rfl))) .nil) (xh1 ⟨.h (oslE rfl (by first | rfl | (simp <;> rfl) | (simp only [List.length_take]; omega))) rfl, (xh2 ⟨.e rfl (cntI hi hlt hlen), trivial⟩)⟩)
  case done1 =>
   rintro p1 h
   replace h : kEntA_L1 p_as [] p1 = some v4 := h
   rw [kEntA_L1] at h
   show VCL _ _ _ _ _ (envOf _) (_ :: _)
   refine vcl_unroll ?_
   refine xsr ?_
   refine xp ?_
   refine xq ?_
   refine vc_seq ?_
   refine vc_cond rfl (fun ht => absurd ht (by simp; try omega)) (fun _ => ?_)
   refine vc_exit ?_
   cases h
   exact xm [0] (.cons rfl (.arr (by first | rfl | (simp <;> rfl))) .nil) (xh1 trivial)
 ·have h := hLv4
  refine vc_seq ?_
  refine xk [] [(5, .d (.list 3 (v4.map encAsk)))] .nil ⟨.z (.osl rfl (by simp)) .refl, trivial⟩ ?_
  refine xr ?_
  iterate 2 refine xp ?_
  refine xq ?_
  replace h := Option.some.inj h
  refine vc_ret ⟨.inr rfl, [.list 3 (v4.map encAsk)], (.cons rfl ⟨_, .d, .refl⟩ .nil), ?_⟩
  first | (rw [← h]; done) | (rw [← h]; rfl) | (rw [← h]; simp)
def kAskEntry (a : Ask) : Ask := a
theorem kAskEntry_ok (a : Ask) (r : Ask) (h : kAskEntry a = r) : PCalls Tryz.prog 118 [encAsk a] (encAsk r) := by
 unfold kAskEntry at h
 refine xe 4 Tryz.func118 ?_
 refine xsr ?_
 refine xa ?_
 refine xa ?_
 refine xq ?_
 refine vc_seq ?_
 refine xk [1] [(1, .d (.ptr [I a.cell.slot, I a.cell.offset, I a.peer])), (2, .own 0 0)] (σ' := [.cells [.d (I 0), .d (I 0), .d (I 0)]]) (.cons rfl (.cells (.cons (.h rfl rfl) (.cons (.h rfl rfl) (.cons (.h rfl rfl) .nil)))) .nil) ⟨.z (.own' rfl (.cons .d (.cons .d (.cons .d .nil)))) .refl, (xh1 trivial)⟩ ?_
 refine xr ?_
 refine xp ?_
 refine xw ?_
 refine xq ?_
 refine vc_ret ⟨.inr rfl, [encAsk a], (.cons rfl ⟨_, .d, .refl⟩ .nil), ?_⟩
 first | (rw [← h]; done) | (rw [← h]; rfl) | (rw [← h]; simp)
def kCellsValid (t : Table) (a1 : Layout) : Option (Bool) := cond ((decide (a1.nodes < 1)) || ((decide (a1.nodes > 60)) || ((decide (a1.data < 1)) || ((decide (a1.data > 60)) || ((decide ((IntKind.i64.wrap ((t.uses.length : Int) + (t.grants.length : Int))) > 24)) || (decide ((t.asks.length : Int) > 24))))))) (some false) (Option.bind (Option.bind (kEntU t.uses (fun y0 => some (kUseEntry y0))) fun v8 => cond (decide ((-9223372036854775808 < a1.nodes ∧ a1.nodes ≤ 9223372036854775807) ∧ (-9223372036854775808 < a1.data ∧ a1.data ≤ 9223372036854775807) ∧ v8.length ≤ 4000000)) (cond ((snd (fun x => isUse x a1) (fun x => x.cell.slot) (-1) v8 ([] : List (Int × Int))).1) (Option.bind (kEntG t.grants (fun y0 => some (kGrantEntry y0))) fun v11 => cond (decide ((-9223372036854775808 < a1.nodes ∧ a1.nodes ≤ 9223372036854775807) ∧ (-9223372036854775808 < a1.data ∧ a1.data ≤ 9223372036854775807) ∧ v11.length ≤ 4000000)) (cond ((snd (fun x => isGrant x a1) (fun x => x.cell.slot) (-1) v11 ((snd (fun x => isUse x a1) (fun x => x.cell.slot) (-1) v8 ([] : List (Int × Int))).2)).1) (Option.bind (kEntA t.asks (fun y0 => some (kAskEntry y0))) fun v14 => cond (decide ((-9223372036854775808 < a1.nodes ∧ a1.nodes ≤ 9223372036854775807) ∧ (-9223372036854775808 < a1.data ∧ a1.data ≤ 9223372036854775807) ∧ v14.length ≤ 4000000)) (some ((!((snd (fun x => isAsk x a1) (fun x => x.cell.slot) (-1) v14 ((snd (fun x => isGrant x a1) (fun x => x.cell.slot) (-1) v11 ((snd (fun x => isUse x a1) (fun x => x.cell.slot) (-1) v8 ([] : List (Int × Int))).2)).2)).1)), (snd (fun x => isAsk x a1) (fun x => x.cell.slot) (-1) v14 ((snd (fun x => isGrant x a1) (fun x => x.cell.slot) (-1) v11 ((snd (fun x => isUse x a1) (fun x => x.cell.slot) (-1) v8 ([] : List (Int × Int))).2)).2)).2)) none) (some (true, (snd (fun x => isGrant x a1) (fun x => x.cell.slot) (-1) v11 ((snd (fun x => isUse x a1) (fun x => x.cell.slot) (-1) v8 ([] : List (Int × Int))).2)).2))) none) (some (true, (snd (fun x => isUse x a1) (fun x => x.cell.slot) (-1) v8 ([] : List (Int × Int))).2))) none) fun v7 => cond v7.1 (some false) (cond (v7.2.any fun y17 => cond (decide (y17.2 > 1)) (true) (false)) (some false) (some true)))
theorem kCellsValid_ok (t : Table) (a1 : Layout) (r : Bool) (h : kCellsValid t a1 = some r) : PCalls Tryz.prog 73 [encTable t, encLayout a1] (B r) := by
 unfold kCellsValid at h
 refine xe 76 Tryz.func73 ?_
 refine xsr ?_
 refine xa ?_
 refine xa ?_
 refine xp ?_
 refine xq ?_
 refine vc_seq ?_
 refine vc_seq ?_
 refine xk [] [(2, .d (.ptr [.list 4 (t.uses.map encUse), .list 5 (t.grants.map encGrant), .list 3 (t.asks.map encAsk)])), (3, .d (.ptr [I a1.nodes, I a1.data]))] .nil ⟨.z (.own' rfl (.cons .d (.cons .d (.cons .d .nil)))) .refl, .z (.own' rfl (.cons .d (.cons .d .nil))) .refl, trivial⟩ ?_
 refine vc_midQ [(2, .d (.ptr [.list 4 (t.uses.map encUse), .list 5 (t.grants.map encGrant), .list 3 (t.asks.map encAsk)])), (3, .d (.ptr [I a1.nodes, I a1.data])), (41, .d (B ((decide (a1.nodes < 1)) || ((decide (a1.nodes > 60)) || ((decide (a1.data < 1)) || ((decide (a1.data > 60)) || ((decide ((IntKind.i64.wrap ((t.uses.length : Int) + (t.grants.length : Int))) > 24)) || (decide ((t.asks.length : Int) > 24)))))))))] [] ?_ ?_
 ·refine xr ?_
  iterate 4 refine xp ?_
  cases c1 : decide (a1.nodes < 1) with
  | true =>
   iterate 3 refine xs ?_
   iterate 2 refine xp ?_
   iterate 3 refine xs ?_
   iterate 2 refine xp ?_
   iterate 3 refine xs ?_
   iterate 2 refine xp ?_
   iterate 8 refine xs ?_
   iterate 2 refine xp ?_
   iterate 4 refine xs ?_
   refine xp ?_
   refine xq ?_
   exact xm [] .nil (xh3 trivial)
  | false =>
   iterate 5 refine xp ?_
   cases c2 : decide (a1.nodes > 60) with
   | true =>
    iterate 3 refine xs ?_
    iterate 2 refine xp ?_
    iterate 3 refine xs ?_
    iterate 2 refine xp ?_
    iterate 8 refine xs ?_
    iterate 2 refine xp ?_
    iterate 4 refine xs ?_
    refine xp ?_
    refine xq ?_
    exact xm [] .nil (xh3 trivial)
   | false =>
    iterate 5 refine xp ?_
    cases c3 : decide (a1.data < 1) with
    | true =>
     iterate 3 refine xs ?_
     iterate 2 refine xp ?_
     iterate 8 refine xs ?_
     iterate 2 refine xp ?_
     iterate 4 refine xs ?_
     refine xp ?_
     refine xq ?_
     exact xm [] .nil (xh3 trivial)
    | false =>
     iterate 5 refine xp ?_
     cases c4 : decide (a1.data > 60) with
     | true =>
      iterate 8 refine xs ?_
      iterate 2 refine xp ?_
      iterate 4 refine xs ?_
      refine xp ?_
      refine xq ?_
      exact xm [] .nil (xh3 trivial)
     | false =>
      iterate 2 refine xp ?_
      refine xl ?_
      iterate 2 refine xp ?_
      refine xl ?_
      iterate 4 refine xp ?_
      cases c5 : decide ((IntKind.i64.wrap ((t.uses.length : Int) + (t.grants.length : Int))) > 24) with
      | true =>
       iterate 4 refine xs ?_
       refine xp ?_
       refine xq ?_
       exact xm [] .nil (xh3 trivial)
      | false =>
       iterate 2 refine xp ?_
       refine xl ?_
       iterate 2 refine xp ?_
       refine xq ?_
       exact xm [] .nil (xh3 trivial)
 ·cases c6 : ((decide (a1.nodes < 1)) || ((decide (a1.nodes > 60)) || ((decide (a1.data < 1)) || ((decide (a1.data > 60)) || ((decide ((IntKind.i64.wrap ((t.uses.length : Int) + (t.grants.length : Int))) > 24)) || (decide ((t.asks.length : Int) > 24))))))) with
  | true =>
   have h := cT c6 h
   refine vc_condT rfl ?_
   refine xsr ?_
   refine xp ?_
   refine xq ?_
   replace h := Option.some.inj h
   refine vc_ret ⟨.inr rfl, [B false], (.cons rfl ⟨_, .d, .refl⟩ .nil), ?_⟩
   first | (rw [← h]; done) | (rw [← h]; rfl) | (rw [← h]; simp)
  | false =>
   have h := cF c6 h
   refine vc_condF rfl ?_
   refine vc_skip ?_
   refine xsr ?_
   refine rmm rfl rfl rfl rfl ?_
   refine xp ?_
   refine xq ?_
   refine vc_seq ?_
   refine vc_seq ?_
   obtain ⟨v7, hv7, h⟩ := bindO h
   refine vc_midQ [(5, .omap 0), (67, .d (B v7.1))] [.map (ents .i64 (v7.2.map fun y => (y.1, I y.2)))] ?_ ?_
   ·replace h := hv7; clear hv7
    refine xd ?_
    iterate 2 refine xp ?_
    obtain ⟨v8, hv8, h⟩ := bindO h
    refine xc (kEntU_ok t.uses (fun y0 => some (kUseEntry y0)) (fun y0 r h => kUseEntry_ok y0 r (Option.some.inj h)) _ hv8) ?_
    iterate 2 refine xp ?_
    obtain ⟨g9, h⟩ := gd h; replace g9 := dT g9
    refine rg2 [0] rfl rfl rfl rfl rfl (by decide) rfl rfl rfl rfl (soundUse_ok v8 a1 ⟨g9.1.1, g9.1.2, g9.2.1.1, g9.2.1.2⟩ ([] : List (Int × Int)) g9.2.2) rfl rfl ?_
    iterate 2 refine xp ?_
    cases c10 : (snd (fun x => isUse x a1) (fun x => x.cell.slot) (-1) v8 ([] : List (Int × Int))).1 with
    | true =>
     have h := cT c10 h
     iterate 2 refine xp ?_
     obtain ⟨v11, hv11, h⟩ := bindO h
     refine xc (kEntG_ok t.grants (fun y0 => some (kGrantEntry y0)) (fun y0 r h => kGrantEntry_ok y0 r (Option.some.inj h)) _ hv11) ?_
     iterate 2 refine xp ?_
     obtain ⟨g12, h⟩ := gd h; replace g12 := dT g12
     refine rg2 [0] rfl rfl rfl rfl rfl (by decide) rfl rfl rfl rfl (soundGrant_ok v11 a1 ⟨g12.1.1, g12.1.2, g12.2.1.1, g12.2.1.2⟩ ((snd (fun x => isUse x a1) (fun x => x.cell.slot) (-1) v8 ([] : List (Int × Int))).2) g12.2.2) rfl rfl ?_
     iterate 3 refine xp ?_
     cases c13 : (snd (fun x => isGrant x a1) (fun x => x.cell.slot) (-1) v11 ((snd (fun x => isUse x a1) (fun x => x.cell.slot) (-1) v8 ([] : List (Int × Int))).2)).1 with
     | true =>
      have h := cT c13 h
      iterate 2 refine xp ?_
      obtain ⟨v14, hv14, h⟩ := bindO h
      refine xc (kEntA_ok t.asks (fun y0 => some (kAskEntry y0)) (fun y0 r h => kAskEntry_ok y0 r (Option.some.inj h)) _ hv14) ?_
      iterate 2 refine xp ?_
      obtain ⟨g15, h⟩ := gd h; replace g15 := dT g15
      refine rg2 [0] rfl rfl rfl rfl rfl (by decide) rfl rfl rfl rfl (soundAsk_ok v14 a1 ⟨g15.1.1, g15.1.2, g15.2.1.1, g15.2.1.2⟩ ((snd (fun x => isGrant x a1) (fun x => x.cell.slot) (-1) v11 ((snd (fun x => isUse x a1) (fun x => x.cell.slot) (-1) v8 ([] : List (Int × Int))).2)).2) g15.2.2) rfl rfl ?_
      iterate 2 refine xp ?_
      cases h
      refine xq ?_
      exact xm [0] ((.cons rfl (.map rfl) .nil)) (xh2 trivial)
     | false =>
      have h := cF c13 h
      iterate 7 refine xs ?_
      refine xp ?_
      cases h
      refine xq ?_
      exact xm [0] ((.cons rfl (.map rfl) .nil)) (xh2 trivial)
    | false =>
     have h := cF c10 h
     iterate 7 refine xs ?_
     iterate 2 refine xp ?_
     iterate 7 refine xs ?_
     refine xp ?_
     cases h
     refine xq ?_
     exact xm [0] ((.cons rfl (.map rfl) .nil)) (xh2 trivial)
   ·cases c16 : v7.1 with
    | true =>
     have h := cT c16 h
     refine vc_condT rfl ?_
     refine xsr ?_
     refine xp ?_
     refine xq ?_
     replace h := Option.some.inj h
     refine vc_ret ⟨.inr rfl, [B false], (.cons rfl ⟨_, .d, .refl⟩ .nil), ?_⟩
     first | (rw [← h]; done) | (rw [← h]; rfl) | (rw [← h]; simp)
    | false =>
     have h := cF c16 h
     refine vc_condF rfl ?_
     refine vc_skip ?_
     refine vc_seq ?_
     refine xk [0] [(5, .omap 0)] (σ' := [.map (ents .i64 (v7.2.map fun y => (y.1, I y.2)))]) (.cons rfl (.map rfl) .nil) (xh1 trivial) ?_
     refine vc_mapRange2 (σs := []) tabOk sized [] (ents .i64 (v7.2.map fun y => (y.1, I y.2))) (fun key val => ∃ z ∈ v7.2, (key, val) = (D.lit (.int .i64 z.1), D.lit (.int .i64 z.2)) ∧ (fun y17 : Int × Int => cond (decide (y17.2 > 1)) (true) (false)) z = false) rfl rfl ?head rfl rfl rfl rfl rfl rfl rfl rfl rfl rfl rfl rfl rfl (by decide) (by decide) rfl rfl rfl rfl ?done ?round
     case head =>
      refine xp ?_
      refine rq_nil rfl ⟨rfl, rfl, trivial⟩
     case done =>
      intro hall
      have H := h
      have hno : v7.2.any (fun y17 => cond (decide (y17.2 > 1)) (true) (false)) = false := any_no hall
      have h := cF hno H
      refine xsr ?_
      refine xp ?_
      refine xq ?_
      replace h := Option.some.inj h
      refine vc_ret ⟨.inr rfl, [B true], (.cons rfl ⟨_, .d, .refl⟩ .nil), ?_⟩
      first | (rw [← h]; done) | (rw [← h]; rfl) | (rw [← h]; simp)
     case round =>
      rintro r key val hmem
      obtain ⟨y17, hy, he⟩ : ∃ z ∈ v7.2, (D.lit (.int .i64 z.1), D.lit (.int .i64 z.2)) = (key, val) := by simpa [ents, List.map_map] using hmem
      cases he
      have H := h
      obtain ⟨b, h⟩ : ∃ b, (fun y17 : Int × Int => cond (decide (y17.2 > 1)) (true) (false)) y17 = b := ⟨_, rfl⟩
      have h0 := h
      replace h : cond (decide (y17.2 > 1)) (true) (false) = b := h
      iterate 2 refine xp ?_
      refine rq_nil rfl ?_
      refine xsr ?_
      iterate 2 refine xp ?_
      refine xq ?_
      cases c18 : decide (y17.2 > 1) with
      | true =>
       have h := cT c18 h
       refine vc_condT rfl ?_
       refine xsr ?_
       refine xp ?_
       refine xq ?_
       have hany : v7.2.any (fun y17 => cond (decide (y17.2 > 1)) (true) (false)) = true := List.any_eq_true.2 ⟨y17, hy, h0.trans h.symm⟩
       have h := cT hany H
       replace h := Option.some.inj h
       refine vc_ret (.inr ⟨by simp, by simp, ⟨.inr rfl, [B false], (.cons rfl ⟨_, .d, .refl⟩ .nil), ?_⟩⟩)
       first | (rw [← h]; done) | (rw [← h]; rfl) | (rw [← h]; simp)
      | false =>
       have h := cF c18 h
       refine vc_condF rfl ?_
       refine vc_skip ?_
       exact .inl ⟨.inl rfl, ⟨y17, hy, rfl, h0.trans h.symm⟩, weak_cut (ks := []) (l := [(69, .d (.lit (.pointer (some ⟨r, 0, none⟩))))]) rfl (by decide) .nil (xh1 trivial)⟩
end Go.VM.Tryz
namespace Go.VM.Tryz
open Go.Proofs
def kIsCell_L1 (p_has : Use → Option (Bool)) : List Use → (List Use) → Option (List Use)
 | [], p1 => some p1
 | x3 :: l, p1 => Option.bind (p_has x3) fun v5 => Option.bind (cond v5 (cond (decide (p1.length + 1 ≤ 4294967296)) (some (p1 ++ [x3])) none) (some p1)) fun v6 => kIsCell_L1 p_has l v6
def kIsCell (a0 : (List Use)) (p_has : Use → Option (Bool)) : Option ((List Use)) := Option.bind (kIsCell_L1 p_has a0 []) fun v4 => some v4
theorem kIsCell_ok {g_has : FuncId} {c_has : List D} (a0 : (List Use)) (p_has : Use → Option (Bool)) (hp_has : ∀ (y0 : Use) r, p_has y0 = some r → PCalls Tryz.prog g_has ((encUse y0) :: c_has) (B r)) (r : (List Use)) (h : kIsCell a0 p_has = some r) : PCalls Tryz.prog 74 [.list 4 (a0.map encUse), .fn (.func g_has) [] c_has] (.list 4 (r.map encUse)) := by
 unfold kIsCell at h
 refine xe 23 Tryz.func74 ?_
 refine xsr ?_
 refine xp ?_
 refine xq ?_
 refine xsr ?_
 refine xp ?_
 refine xq ?_
 refine vc_seq ?_
 refine xsr ?_
 refine xp ?_
 refine xl ?_
 refine xp ?_
 refine xq ?_
 refine VC.weak (weak_ownNil 5 61 4 rfl rfl) ?_
 obtain ⟨v4, hv4, hLv4⟩ := bindO h
 refine vc_midQ [(5, .osl 0 v4.length)] [.arr 61 4 (v4.map encUse)] ?_ ?_
 ·refine vc_block ?_
  refine vc_loop ?_
  refine xK [0] [(1, .d (.fn (.func g_has) [] c_has)), (5, .osl 0 0), (8, .d (.list 4 (a0.map encUse))), (9, .d (I (a0.length : Int))), (10, .d (I 0))] (σ' := [.arr 61 4 ([].map encUse)]) (.cons rfl (.arr (by first | rfl | (simp <;> rfl))) .nil) (xh5 trivial) ?_
  refine vcl_len 8 rfl (fun hlen => ?_)
  replace hlen := len_map hlen
  refine vcl_rec a0 (fun (pre l : List Use) (s : List Use) => kIsCell_L1 p_has l s) (some v4) (fun pre s => envOf [(1, .d (.fn (.func g_has) [] c_has)), (5, .osl 0 s.length), (8, .d (.list 4 (a0.map encUse))), (9, .d (I (a0.length : Int))), (10, .d (I (pre.length : Int)))]) (fun pre s => [.arr 61 4 (s.map encUse)]) ?step1 ?done1 [] hv4
  case step1 =>
   rintro pre x3 l p1 hpre hlt h ih
   have hprex3 := hpre
   replace h : kIsCell_L1 p_has (x3 :: l) p1 = some v4 := h
   show VCL _ _ _ _ _ (envOf _) (_ :: _)
   obtain ⟨i2, hi⟩ : ∃ i : Int, i = (pre.length : Int) := ⟨_, rfl⟩
   have hix3 := hi
   rw [← hi]
   rw [kIsCell_L1] at h
   refine vcl_unroll ?_
   refine xsr ?_
   refine xp ?_
   refine xq ?_
   refine vc_seq ?_
   refine vc_cond rfl (fun _ => ?_) (fun hf => absurd hf (by simp; omega))
   refine vc_skip ?_
   refine vc_seq ?_
   refine vc_block ?_
   refine xsr ?_
   refine ri rfl rfl rfl rfl rfl rfl rfl (by omega) (by rw [hix3]; exact idxp hprex3) ?_
   refine xp ?_
   refine xa ?_
   refine xw ?_
   refine xq ?_
   refine vc_seq ?_
   refine xk [0] [(1, .d (.fn (.func g_has) [] c_has)), (5, .osl 0 p1.length), (7, .d (.ptr (encUse x3).cells)), (8, .d (.list 4 (a0.map encUse))), (9, .d (I (a0.length : Int))), (10, .d (I i2))] (σ' := [.arr 61 4 (p1.map encUse)]) (.cons rfl (.arr (by first | rfl | (simp <;> rfl))) .nil) (xh2 ⟨.z (.own' rfl (.cons .d (.cons .d (.cons .d (.cons .d .nil))))) .refl, (xh3 trivial)⟩) ?_
   refine xr ?_
   iterate 2 refine xp ?_
   obtain ⟨v5, hv5, h⟩ := bindO h
   refine xc (hp_has x3 _ hv5) ?_
   refine xq ?_
   obtain ⟨v6, hv6, h⟩ := bindO h
   refine vc_midQ [(1, .d (.fn (.func g_has) [] c_has)), (5, .osl 0 v6.length), (8, .d (.list 4 (a0.map encUse))), (9, .d (I (a0.length : Int))), (10, .d (I i2))] [.arr 61 4 (v6.map encUse)] ?_ ?_
   ·replace h := hv6; clear hv6
    cases c7 : v5 with
    | true =>
     have h := cT c7 h
     refine vc_condT rfl ?_
     refine xr ?_
     iterate 2 refine xp ?_
     refine xb ?_
     obtain ⟨g8, h⟩ := gd h; replace g8 := dT g8
     refine rap rfl rfl rfl rfl rfl rfl rfl rfl .list rfl rfl rfl rfl (by simp) (by simp; omega) (by simp; omega) ?_
     refine xp ?_
     refine xq ?_
     cases h
     exact xm [0] ((.cons rfl (.arr (by first | rfl | (simp <;> rfl))) .nil)) (xh1 ⟨.h (oslE rfl (by first | rfl | (simp <;> rfl) | (simp only [List.length_take]; omega))) rfl, (xh3 trivial)⟩)
    | false =>
     have h := cF c7 h
     refine vc_condF rfl ?_
     refine vc_skip ?_
     cases h
     exact xm [0] ((.cons rfl (.arr (by first | rfl | (simp <;> rfl))) .nil)) (xh1 ⟨.h (oslE rfl (by first | rfl | (simp <;> rfl) | (simp only [List.length_take]; omega))) rfl, (xh3 trivial)⟩)
   ·refine xr ?_
    iterate 2 refine xp ?_
    refine xq ?_
    exact xv [0] (ih v6 h) (.cons rfl (.arr (by first | rfl | (simp <;> rfl))) .nil) (xh3 (xh1 ⟨.e rfl (cntI hi hlt hlen), trivial⟩))
  case done1 =>
   rintro p1 h
   replace h : kIsCell_L1 p_has [] p1 = some v4 := h
   rw [kIsCell_L1] at h
   show VCL _ _ _ _ _ (envOf _) (_ :: _)
   refine vcl_unroll ?_
   refine xsr ?_
   refine xp ?_
   refine xq ?_
   refine vc_seq ?_
   refine vc_cond rfl (fun ht => absurd ht (by simp; try omega)) (fun _ => ?_)
   refine vc_exit ?_
   cases h
   exact xm [0] (.cons rfl (.arr (by first | rfl | (simp <;> rfl))) .nil) (xh1 trivial)
 ·have h := hLv4
  refine vc_seq ?_
  refine xk [] [(5, .d (.list 4 (v4.map encUse)))] .nil ⟨.z (.osl rfl (by simp)) .refl, trivial⟩ ?_
  refine xr ?_
  iterate 2 refine xp ?_
  refine xq ?_
  replace h := Option.some.inj h
  refine vc_ret ⟨.inr rfl, [.list 4 (v4.map encUse)], (.cons rfl ⟨_, .d, .refl⟩ .nil), ?_⟩
  first | (rw [← h]; done) | (rw [← h]; rfl) | (rw [← h]; simp)
def f81 (a0 : Layout) (a1 : Cell) (peer : Int) : Bool := ((kWithin a1.slot (IntKind.i64.wrap (a0.data - 1))) && ((kWithin a1.offset 15) && (kWithin peer (IntKind.i64.wrap (a0.nodes - 1)))))
theorem f81_ok (a0 : Layout) (a1 : Cell) (peer : Int) (r : Bool) (h : f81 a0 a1 peer = r) : PCalls Tryz.prog 81 [encLayout a0, encCell a1, I peer] (B r) := by
 unfold f81 at h
 refine xe 25 Tryz.func81 ?_
 refine xsr ?_
 refine xa ?_
 refine xa ?_
 refine xp ?_
 refine xq ?_
 refine vc_seq ?_
 refine xk [] [(2, .d (I peer)), (3, .d (.ptr [I a0.nodes, I a0.data])), (4, .d (.ptr [I a1.slot, I a1.offset]))] .nil (xh1 ⟨.z (.own' rfl (.cons .d (.cons .d .nil))) .refl, ⟨.z (.own' rfl (.cons .d (.cons .d .nil))) .refl, trivial⟩⟩) ?_
 refine vc_midQ [(6, .d (B ((kWithin a1.slot (IntKind.i64.wrap (a0.data - 1))) && ((kWithin a1.offset 15) && (kWithin peer (IntKind.i64.wrap (a0.nodes - 1)))))))] [] ?_ ?_
 ·refine xr ?_
  iterate 5 refine xp ?_
  refine xc (kWithin_ok a1.slot (IntKind.i64.wrap (a0.data - 1)) _ rfl) ?_
  refine xp ?_
  cases c1 : (kWithin a1.slot (IntKind.i64.wrap (a0.data - 1))) with
  | true =>
   iterate 2 refine xp ?_
   refine xc (kWithin_ok a1.offset 15 _ rfl) ?_
   iterate 2 refine xp ?_
   cases c2 : (kWithin a1.offset 15) with
   | true =>
    iterate 4 refine xp ?_
    refine xc (kWithin_ok peer (IntKind.i64.wrap (a0.nodes - 1)) _ rfl) ?_
    iterate 2 refine xp ?_
    refine xq ?_
    exact xm [] .nil (xh1 trivial)
   | false =>
    iterate 5 refine xs ?_
    iterate 2 refine xp ?_
    refine xq ?_
    exact xm [] .nil (xh1 trivial)
  | false =>
   iterate 3 refine xs ?_
   iterate 2 refine xp ?_
   iterate 5 refine xs ?_
   iterate 2 refine xp ?_
   refine xq ?_
   exact xm [] .nil (xh1 trivial)
 ·refine vc_ret ⟨.inr rfl, [B ((kWithin a1.slot (IntKind.i64.wrap (a0.data - 1))) && ((kWithin a1.offset 15) && (kWithin peer (IntKind.i64.wrap (a0.nodes - 1)))))], (.cons rfl ⟨_, .d, .refl⟩ .nil), ?_⟩
  first | (rw [← h]; done) | (rw [← h]; rfl) | (rw [← h]; simp)
def f76 (a0 : Layout) (a1 : Use) : Bool := ((f81 a0 a1.cell a1.peer) && (kWithin a1.stamp 1000000000))
theorem f76_ok (a0 : Layout) (a1 : Use) (r : Bool) (h : f76 a0 a1 = r) : PCalls Tryz.prog 76 [encLayout a0, encUse a1] (B r) := by
 unfold f76 at h
 refine xe 16 Tryz.func76 ?_
 refine xsr ?_
 refine xa ?_
 refine xa ?_
 refine xp ?_
 refine xq ?_
 refine vc_seq ?_
 refine xk [] [(2, .d (.ptr [I a0.nodes, I a0.data])), (3, .d (.ptr (encUse a1).cells))] .nil ⟨.z (.own' rfl (.cons .d (.cons .d .nil))) .refl, .z (.own' rfl (.cons .d (.cons .d (.cons .d (.cons .d .nil))))) .refl, trivial⟩ ?_
 refine vc_midQ [(4, .d (B ((f81 a0 a1.cell a1.peer) && (kWithin a1.stamp 1000000000))))] [] ?_ ?_
 ·refine xr ?_
  iterate 5 refine xp ?_
  refine xc (f81_ok a0 a1.cell a1.peer _ rfl) ?_
  refine xp ?_
  cases c1 : (f81 a0 a1.cell a1.peer) with
  | true =>
   iterate 2 refine xp ?_
   refine xc (kWithin_ok a1.stamp 1000000000 _ rfl) ?_
   iterate 2 refine xp ?_
   refine xq ?_
   exact xm [] .nil (xh1 trivial)
  | false =>
   iterate 3 refine xs ?_
   iterate 2 refine xp ?_
   refine xq ?_
   exact xm [] .nil (xh1 trivial)
 ·refine vc_ret ⟨.inr rfl, [B ((f81 a0 a1.cell a1.peer) && (kWithin a1.stamp 1000000000))], (.cons rfl ⟨_, .d, .refl⟩ .nil), ?_⟩
  first | (rw [← h]; done) | (rw [← h]; rfl) | (rw [← h]; simp)
def f75 (a0 : Use) (c0 : Layout) : Bool := (f76 c0 a0)
theorem f75_ok (a0 : Use) (c0 : Layout) (r : Bool) (h : f75 a0 c0 = r) : PCalls Tryz.prog 75 [encUse a0, .ptr [I c0.nodes, I c0.data]] (B r) := by
 unfold f75 at h
 refine xe 7 Tryz.func75 ?_
 refine xsr ?_
 refine xa ?_
 refine xp ?_
 refine xq ?_
 refine vc_seq ?_
 refine xk [] [(1, .d (.ptr [I c0.nodes, I c0.data])), (2, .d (.ptr (encUse a0).cells))] .nil (xh1 ⟨.z (.own' rfl (.cons .d (.cons .d (.cons .d (.cons .d .nil))))) .refl, trivial⟩) ?_
 refine xr ?_
 iterate 2 refine xp ?_
 refine xc (f76_ok c0 a0 _ rfl) ?_
 refine xp ?_
 refine xq ?_
 refine vc_ret ⟨.inr rfl, [B (f76 c0 a0)], (.cons rfl ⟨_, .d, .refl⟩ .nil), ?_⟩
 first | (rw [← h]; done) | (rw [← h]; rfl) | (rw [← h]; simp)
def f77_L1 (p_has : Grant → Option (Bool)) : List Grant → (List Grant) → Option (List Grant)
 | [], p1 => some p1
 | x3 :: l, p1 => Option.bind (p_has x3) fun v5 => Option.bind (cond v5 (cond (decide (p1.length + 1 ≤ 4294967296)) (some (p1 ++ [x3])) none) (some p1)) fun v6 => f77_L1 p_has l v6
def f77 (a0 : (List Grant)) (p_has : Grant → Option (Bool)) : Option ((List Grant)) := Option.bind (f77_L1 p_has a0 []) fun v4 => some v4
theorem f77_ok {g_has : FuncId} {c_has : List D} (a0 : (List Grant)) (p_has : Grant → Option (Bool)) (hp_has : ∀ (y0 : Grant) r, p_has y0 = some r → PCalls Tryz.prog g_has ((encGrant y0) :: c_has) (B r)) (r : (List Grant)) (h : f77 a0 p_has = some r) : PCalls Tryz.prog 77 [.list 5 (a0.map encGrant), .fn (.func g_has) [] c_has] (.list 5 (r.map encGrant)) := by
 unfold f77 at h
 refine xe 23 Tryz.func77 ?_
 refine xsr ?_
 refine xp ?_
 refine xq ?_
 refine xsr ?_
 refine xp ?_
 refine xq ?_
 refine vc_seq ?_
 refine xsr ?_
 refine xp ?_
 refine xl ?_
 refine xp ?_
 refine xq ?_
 refine VC.weak (weak_ownNil 5 59 5 rfl rfl) ?_
 obtain ⟨v4, hv4, hLv4⟩ := bindO h
 refine vc_midQ [(5, .osl 0 v4.length)] [.arr 59 5 (v4.map encGrant)] ?_ ?_
 ·refine vc_block ?_
  refine vc_loop ?_
  refine xK [0] [(1, .d (.fn (.func g_has) [] c_has)), (5, .osl 0 0), (8, .d (.list 5 (a0.map encGrant))), (9, .d (I (a0.length : Int))), (10, .d (I 0))] (σ' := [.arr 59 5 ([].map encGrant)]) (.cons rfl (.arr (by first | rfl | (simp <;> rfl))) .nil) (xh5 trivial) ?_
  refine vcl_len 8 rfl (fun hlen => ?_)
  replace hlen := len_map hlen
  refine vcl_rec a0 (fun (pre l : List Grant) (s : List Grant) => f77_L1 p_has l s) (some v4) (fun pre s => envOf [(1, .d (.fn (.func g_has) [] c_has)), (5, .osl 0 s.length), (8, .d (.list 5 (a0.map encGrant))), (9, .d (I (a0.length : Int))), (10, .d (I (pre.length : Int)))]) (fun pre s => [.arr 59 5 (s.map encGrant)]) ?step1 ?done1 [] hv4
  case step1 =>
   rintro pre x3 l p1 hpre hlt h ih
   have hprex3 := hpre
   replace h : f77_L1 p_has (x3 :: l) p1 = some v4 := h
   show VCL _ _ _ _ _ (envOf _) (_ :: _)
   obtain ⟨i2, hi⟩ : ∃ i : Int, i = (pre.length : Int) := ⟨_, rfl⟩
   have hix3 := hi
   rw [← hi]
   rw [f77_L1] at h
   refine vcl_unroll ?_
   refine xsr ?_
   refine xp ?_
   refine xq ?_
   refine vc_seq ?_
   refine vc_cond rfl (fun _ => ?_) (fun hf => absurd hf (by simp; omega))
   refine vc_skip ?_
   refine vc_seq ?_
   refine vc_block ?_
   refine xsr ?_
   refine ri rfl rfl rfl rfl rfl rfl rfl (by omega) (by rw [hix3]; exact idxp hprex3) ?_
   refine xp ?_
   refine xa ?_
   refine xw ?_
   refine xq ?_
   refine vc_seq ?_
   refine xk [0] [(1, .d (.fn (.func g_has) [] c_has)), (5, .osl 0 p1.length), (7, .d (.ptr (encGrant x3).cells)), (8, .d (.list 5 (a0.map encGrant))), (9, .d (I (a0.length : Int))), (10, .d (I i2))] (σ' := [.arr 59 5 (p1.map encGrant)]) (.cons rfl (.arr (by first | rfl | (simp <;> rfl))) .nil) (xh2 ⟨.z (.own' rfl (.cons .d (.cons .d (.cons .d (.cons .d (.cons .d .nil)))))) .refl, (xh3 trivial)⟩) ?_
   refine xr ?_
   iterate 2 refine xp ?_
   obtain ⟨v5, hv5, h⟩ := bindO h
   refine xc (hp_has x3 _ hv5) ?_
   refine xq ?_
   obtain ⟨v6, hv6, h⟩ := bindO h
   refine vc_midQ [(1, .d (.fn (.func g_has) [] c_has)), (5, .osl 0 v6.length), (8, .d (.list 5 (a0.map encGrant))), (9, .d (I (a0.length : Int))), (10, .d (I i2))] [.arr 59 5 (v6.map encGrant)] ?_ ?_
   ·replace h := hv6; clear hv6
    cases c7 : v5 with
    | true =>
     have h := cT c7 h
     refine vc_condT rfl ?_
     refine xr ?_
     iterate 2 refine xp ?_
     refine xb ?_
     obtain ⟨g8, h⟩ := gd h; replace g8 := dT g8
     refine rap rfl rfl rfl rfl rfl rfl rfl rfl .list rfl rfl rfl rfl (by simp) (by simp; omega) (by simp; omega) ?_
     refine xp ?_
     refine xq ?_
     cases h
     exact xm [0] ((.cons rfl (.arr (by first | rfl | (simp <;> rfl))) .nil)) (xh1 ⟨.h (oslE rfl (by first | rfl | (simp <;> rfl) | (simp only [List.length_take]; omega))) rfl, (xh3 trivial)⟩)
    | false =>
     have h := cF c7 h
     refine vc_condF rfl ?_
     refine vc_skip ?_
     cases h
     exact xm [0] ((.cons rfl (.arr (by first | rfl | (simp <;> rfl))) .nil)) (xh1 ⟨.h (oslE rfl (by first | rfl | (simp <;> rfl) | (simp only [List.length_take]; omega))) rfl, (xh3 trivial)⟩)
   ·refine xr ?_
    iterate 2 refine xp ?_
    refine xq ?_
    exact xv [0] (ih v6 h) (.cons rfl (.arr (by first | rfl | (simp <;> rfl))) .nil) (xh3 (xh1 ⟨.e rfl (cntI hi hlt hlen), trivial⟩))
  case done1 =>
   rintro p1 h
   replace h : f77_L1 p_has [] p1 = some v4 := h
   rw [f77_L1] at h
   show VCL _ _ _ _ _ (envOf _) (_ :: _)
   refine vcl_unroll ?_
   refine xsr ?_
   refine xp ?_
   refine xq ?_
   refine vc_seq ?_
   refine vc_cond rfl (fun ht => absurd ht (by simp; try omega)) (fun _ => ?_)
   refine vc_exit ?_
   cases h
   exact xm [0] (.cons rfl (.arr (by first | rfl | (simp <;> rfl))) .nil) (xh1 trivial)
 ·have h := hLv4
  refine vc_seq ?_
  refine xk [] [(5, .d (.list 5 (v4.map encGrant)))] .nil ⟨.z (.osl rfl (by simp)) .refl, trivial⟩ ?_
  refine xr ?_
  iterate 2 refine xp ?_
  refine xq ?_
  replace h := Option.some.inj h
  refine vc_ret ⟨.inr rfl, [.list 5 (v4.map encGrant)], (.cons rfl ⟨_, .d, .refl⟩ .nil), ?_⟩
  first | (rw [← h]; done) | (rw [← h]; rfl) | (rw [← h]; simp)
def f79 (a0 : Layout) (a1 : Grant) : Bool := ((f81 a0 a1.cell a1.peer) && ((decide (a1.stamp ≥ 0)) && ((kWithin a1.stamp a1.til) && (decide (a1.til ≤ 1000000000)))))
theorem f79_ok (a0 : Layout) (a1 : Grant) (r : Bool) (h : f79 a0 a1 = r) : PCalls Tryz.prog 79 [encLayout a0, encGrant a1] (B r) := by
 unfold f79 at h
 refine xe 28 Tryz.func79 ?_
 refine xsr ?_
 refine xa ?_
 refine xa ?_
 refine xp ?_
 refine xq ?_
 refine vc_seq ?_
 refine xk [] [(2, .d (.ptr [I a0.nodes, I a0.data])), (3, .d (.ptr (encGrant a1).cells))] .nil ⟨.z (.own' rfl (.cons .d (.cons .d .nil))) .refl, .z (.own' rfl (.cons .d (.cons .d (.cons .d (.cons .d (.cons .d .nil)))))) .refl, trivial⟩ ?_
 refine vc_midQ [(4, .d (B ((f81 a0 a1.cell a1.peer) && ((decide (a1.stamp ≥ 0)) && ((kWithin a1.stamp a1.til) && (decide (a1.til ≤ 1000000000)))))))] [] ?_ ?_
 ·refine xr ?_
  iterate 5 refine xp ?_
  refine xc (f81_ok a0 a1.cell a1.peer _ rfl) ?_
  refine xp ?_
  cases c1 : (f81 a0 a1.cell a1.peer) with
  | true =>
   iterate 5 refine xp ?_
   cases c2 : decide (a1.stamp ≥ 0) with
   | true =>
    iterate 4 refine xp ?_
    refine xc (kWithin_ok a1.stamp a1.til _ rfl) ?_
    iterate 2 refine xp ?_
    cases c3 : (kWithin a1.stamp a1.til) with
    | true =>
     iterate 5 refine xp ?_
     refine xq ?_
     exact xm [] .nil (xh1 trivial)
    | false =>
     iterate 3 refine xs ?_
     iterate 2 refine xp ?_
     refine xq ?_
     exact xm [] .nil (xh1 trivial)
   | false =>
    iterate 5 refine xs ?_
    iterate 2 refine xp ?_
    iterate 3 refine xs ?_
    iterate 2 refine xp ?_
    refine xq ?_
    exact xm [] .nil (xh1 trivial)
  | false =>
   iterate 3 refine xs ?_
   iterate 2 refine xp ?_
   iterate 5 refine xs ?_
   iterate 2 refine xp ?_
   iterate 3 refine xs ?_
   iterate 2 refine xp ?_
   refine xq ?_
   exact xm [] .nil (xh1 trivial)
 ·refine vc_ret ⟨.inr rfl, [B ((f81 a0 a1.cell a1.peer) && ((decide (a1.stamp ≥ 0)) && ((kWithin a1.stamp a1.til) && (decide (a1.til ≤ 1000000000)))))], (.cons rfl ⟨_, .d, .refl⟩ .nil), ?_⟩
  first | (rw [← h]; done) | (rw [← h]; rfl) | (rw [← h]; simp)
def f78 (a0 : Grant) (c0 : Layout) : Bool := (f79 c0 a0)
theorem f78_ok (a0 : Grant) (c0 : Layout) (r : Bool) (h : f78 a0 c0 = r) : PCalls Tryz.prog 78 [encGrant a0, .ptr [I c0.nodes, I c0.data]] (B r) := by
 unfold f78 at h
 refine xe 7 Tryz.func78 ?_
 refine xsr ?_
 refine xa ?_
 refine xp ?_
 refine xq ?_
 refine vc_seq ?_
 refine xk [] [(1, .d (.ptr [I c0.nodes, I c0.data])), (2, .d (.ptr (encGrant a0).cells))] .nil (xh1 ⟨.z (.own' rfl (.cons .d (.cons .d (.cons .d (.cons .d (.cons .d .nil)))))) .refl, trivial⟩) ?_
 refine xr ?_
 iterate 2 refine xp ?_
 refine xc (f79_ok c0 a0 _ rfl) ?_
 refine xp ?_
 refine xq ?_
 refine vc_ret ⟨.inr rfl, [B (f79 c0 a0)], (.cons rfl ⟨_, .d, .refl⟩ .nil), ?_⟩
 first | (rw [← h]; done) | (rw [← h]; rfl) | (rw [← h]; simp)
def f80 (a : Ask) (c0 : Layout) : Bool := (f81 c0 a.cell a.peer)
theorem f80_ok (a : Ask) (c0 : Layout) (r : Bool) (h : f80 a c0 = r) : PCalls Tryz.prog 80 [encAsk a, .ptr [I c0.nodes, I c0.data]] (B r) := by
 unfold f80 at h
 refine xe 10 Tryz.func80 ?_
 refine xsr ?_
 refine xa ?_
 refine xp ?_
 refine xq ?_
 refine vc_seq ?_
 refine xk [] [(1, .d (.ptr [I c0.nodes, I c0.data])), (2, .d (.ptr [I a.cell.slot, I a.cell.offset, I a.peer]))] .nil (xh1 ⟨.z (.own' rfl (.cons .d (.cons .d (.cons .d .nil)))) .refl, trivial⟩) ?_
 refine xr ?_
 iterate 5 refine xp ?_
 refine xc (f81_ok c0 a.cell a.peer _ rfl) ?_
 refine xp ?_
 refine xq ?_
 refine vc_ret ⟨.inr rfl, [B (f81 c0 a.cell a.peer)], (.cons rfl ⟨_, .d, .refl⟩ .nil), ?_⟩
 first | (rw [← h]; done) | (rw [← h]; rfl) | (rw [← h]; simp)
def f82_L1 (p_a1 : Near → Option (Bool)) : List Near → Int → Option (Sum (Unit) (Int))
 | [], i1 => some (.inl ())
 | x2 :: l, i1 => Option.bind (p_a1 x2) fun v6 => cond v6 (some (.inr i1)) (f82_L1 p_a1 l (i1 + 1))
def f82 (a0 : (List Near)) (p_a1 : Near → Option (Bool)) : Option (Int) := Option.bind (f82_L1 p_a1 a0 0) fun v3 => Sum.elim (fun v4 => some (-1)) (fun v5 => some v5) v3
theorem f82_ok {g_a1 : FuncId} {c_a1 : List D} (a0 : (List Near)) (p_a1 : Near → Option (Bool)) (hp_a1 : ∀ (y0 : Near) r, p_a1 y0 = some r → PCalls Tryz.prog g_a1 ((encNear y0) :: c_a1) (B r)) (r : Int) (h : f82 a0 p_a1 = some r) : PCalls Tryz.prog 82 [.list 31 (a0.map encNear), .fn (.func g_a1) [] c_a1] (I r) := by
 unfold f82 at h
 refine xe 19 Tryz.func82 ?_
 refine xsr ?_
 refine xp ?_
 refine xq ?_
 refine vc_seq ?_
 refine xsr ?_
 refine xp ?_
 refine xl ?_
 refine xp ?_
 refine xq ?_
 obtain ⟨v3, hv3, hLv3⟩ := bindO h
 refine vc_mid2 v3 (fun v4 => []) (fun v4 => []) ?_ ?_
 ·refine vc_block ?_
  refine vc_loop ?_
  refine xK [] [(0, .d (.list 31 (a0.map encNear))), (1, .d (.fn (.func g_a1) [] c_a1)), (7, .d (I (a0.length : Int))), (8, .d (I 0))] .nil (xh3 (xh1 trivial)) ?_
  refine vcl_len 0 rfl (fun hlen => ?_)
  replace hlen := len_map hlen
  refine vcl_rec a0 (fun (pre l : List Near) (s : Unit) => f82_L1 p_a1 l (pre.length : Int)) (some v3) (fun pre s => envOf [(0, .d (.list 31 (a0.map encNear))), (1, .d (.fn (.func g_a1) [] c_a1)), (7, .d (I (a0.length : Int))), (8, .d (I (pre.length : Int)))]) (fun pre s => []) ?step1 ?done1 () hv3
  case step1 =>
   rintro pre x2 l _ hpre hlt h ih
   have hprex2 := hpre
   replace h : f82_L1 p_a1 (x2 :: l) (pre.length : Int) = some v3 := h
   show VCL _ _ _ _ _ (envOf _) []
   obtain ⟨i1, hi⟩ : ∃ i : Int, i = (pre.length : Int) := ⟨_, rfl⟩
   have hix2 := hi
   rw [← hi] at h ⊢
   rw [f82_L1] at h
   refine vcl_unroll ?_
   refine xsr ?_
   refine xp ?_
   refine xq ?_
   refine vc_seq ?_
   refine vc_cond rfl (fun _ => ?_) (fun hf => absurd hf (by simp; omega))
   refine vc_skip ?_
   refine vc_seq ?_
   refine vc_block ?_
   refine xsr ?_
   iterate 2 refine xp ?_
   refine xq ?_
   refine xsr ?_
   iterate 3 refine xp ?_
   refine ri rfl rfl rfl rfl rfl rfl rfl (by omega) (by rw [hix2]; exact idxp hprex2) ?_
   refine xp ?_
   obtain ⟨v6, hv6, h⟩ := bindO h
   refine xc (hp_a1 x2 _ hv6) ?_
   refine xq ?_
   cases c7 : v6 with
   | true =>
    have h := cT c7 h
    refine vc_condT rfl ?_
    refine xsr ?_
    iterate 2 refine xp ?_
    refine xq ?_
    cases h
    have h := sumR hLv3
    replace h := Option.some.inj h
    refine vc_ret ⟨.inr rfl, [I i1], (.cons rfl ⟨_, .d, .refl⟩ .nil), ?_⟩
    first | (rw [← h]; done) | (rw [← h]; rfl) | (rw [← h]; simp)
   | false =>
    have h := cF c7 h
    refine vc_condF rfl ?_
    refine vc_skip ?_
    refine xr ?_
    iterate 2 refine xp ?_
    refine xq ?_
    exact xv [] (ih () (by show f82_L1 p_a1 _ (((pre ++ [x2]).length : Nat) : Int) = _; rw [cnt1, ← hi]; exact h)) .nil (xh3 ⟨.e rfl (cntI hi hlt hlen), trivial⟩)
  case done1 =>
   rintro _ h
   replace h : f82_L1 p_a1 [] (a0.length : Int) = some v3 := h
   rw [f82_L1] at h
   show VCL _ _ _ _ _ (envOf _) []
   refine vcl_unroll ?_
   refine xsr ?_
   refine xp ?_
   refine xq ?_
   refine vc_seq ?_
   refine vc_cond rfl (fun ht => absurd ht (by simp; try omega)) (fun _ => ?_)
   refine vc_exit ?_
   cases h
   exact xm [] .nil trivial
 ·rintro v4 rfl
  have h := sumL hLv3
  refine xsr ?_
  refine xp ?_
  refine xq ?_
  replace h := Option.some.inj h
  refine vc_ret ⟨.inr rfl, [I (-1)], (.cons rfl ⟨_, .d, .refl⟩ .nil), ?_⟩
  first | (rw [← h]; done) | (rw [← h]; rfl) | (rw [← h]; simp)
def f83 (n : Near) (c0 : Int) : Bool := (n.src == c0)
theorem f83_ok (n : Near) (c0 : Int) (r : Bool) (h : f83 n c0 = r) : PCalls Tryz.prog 83 [encNear n, .ptr [I c0]] (B r) := by
 unfold f83 at h
 refine xe 9 Tryz.func83 ?_
 refine xsr ?_
 refine xa ?_
 refine xp ?_
 refine xq ?_
 refine vc_seq ?_
 refine xk [] [(1, .d (.ptr [I c0])), (2, .d (.ptr (encNear n).cells))] .nil (xh1 ⟨.z (.own' rfl (.cons .d (.cons .d (.cons .d (.cons .d (.cons .d (.cons .d (.cons .d (.cons .d (.cons .d (.cons .d (.cons .d (.cons .d (.cons .d (.cons .d (.cons .d (.cons .d (.cons .d (.cons .d (.cons .d (.cons .d (.cons .d (.cons .d (.cons .d (.cons .d (.cons .d (.cons .d (.cons .d (.cons .d (.cons .d (.cons .d (.cons .d .nil)))))))))))))))))))))))))))))))) .refl, trivial⟩) ?_
 refine xr ?_
 iterate 6 refine xp ?_
 refine xq ?_
 refine vc_ret ⟨.inr rfl, [B (n.src == c0)], (.cons rfl ⟨_, .d, .refl⟩ .nil), ?_⟩
 first | (rw [← h]; done) | (rw [← h]; rfl) | (rw [← h]; simp)
def kBFind (a0 : Side) (peer : Int) : Option (Near × Bool) := Option.bind (f82 a0.near (fun y0 => some (f83 y0 peer))) fun v1 => cond (decide (v1 < 0)) (some (⟨0, 0, ⟨[], [], []⟩, ⟨I 0, I 0, I 0, I 0, I 0, I 0, I 0, I 0, I 0, I 0, .lit (.slice none 0 0), B false, .lit (.slice none 0 0), .lit (.slice none 0 0), .lit (.slice none 0 0), I 0, I 0, .lit (.int .u64 0), I 0, I 0, I 0, I 0, I 0, .lit (.slice none 0 0), .lit (.slice none 0 0), B false⟩⟩, false)) (Option.bind (elt a0.near v1) fun v3 => some (v3, true))
theorem kBFind_ok (a0 : Side) (peer : Int) (r : Near × Bool) (h : kBFind a0 peer = some r) : PCalls Tryz.prog 37 [.ptr (encSideS a0).cells, I peer] (.tuple [encNear r.1, B r.2]) := by
 unfold kBFind at h
 refine xe 23 Tryz.func37 ?_
 refine xsr ?_
 refine xa ?_
 refine xa ?_
 refine xp ?_
 refine xq ?_
 refine vc_seq ?_
 refine xk [1] [(0, .d (.ptr (encSideS a0).cells)), (3, .d (.ptr [I peer])), (4, .own 0 0)] (σ' := [.cells [.d (I 0), .d (I 0), .d (I 0), .d (I 0), .d (I 0), .d (I 0), .d (I 0), .d (I 0), .d (I 0), .d (I 0), .d (I 0), .d (I 0), .d (.lit (.slice none 0 0)), .d (.lit (.slice none 0 0)), .d (.lit (.slice none 0 0)), .d (.lit (.slice none 0 0)), .d (B false), .d (.lit (.slice none 0 0)), .d (.lit (.slice none 0 0)), .d (.lit (.slice none 0 0)), .d (I 0), .d (I 0), .d (.lit (.int .u64 0)), .d (I 0), .d (I 0), .d (I 0), .d (I 0), .d (I 0), .d (.lit (.slice none 0 0)), .d (.lit (.slice none 0 0)), .d (B false)]]) (.cons rfl (.cells (.cons (.h rfl rfl) (.cons (.h rfl rfl) (.cons (.h rfl rfl) (.cons (.h rfl rfl) (.cons (.h rfl rfl) (.cons (.h rfl rfl) (.cons (.h rfl rfl) (.cons (.h rfl rfl) (.cons (.h rfl rfl) (.cons (.h rfl rfl) (.cons (.h rfl rfl) (.cons (.h rfl rfl) (.cons (.h rfl rfl) (.cons (.h rfl rfl) (.cons (.h rfl rfl) (.cons (.h rfl rfl) (.cons (.h rfl rfl) (.cons (.h rfl rfl) (.cons (.h rfl rfl) (.cons (.h rfl rfl) (.cons (.h rfl rfl) (.cons (.h rfl rfl) (.cons (.h rfl rfl) (.cons (.h rfl rfl) (.cons (.h rfl rfl) (.cons (.h rfl rfl) (.cons (.h rfl rfl) (.cons (.h rfl rfl) (.cons (.h rfl rfl) (.cons (.h rfl rfl) (.cons (.h rfl rfl) .nil)))))))))))))))))))))))))))))))) .nil) (xh1 ⟨.z (.own' rfl (.cons .d .nil)) .refl, (xh1 trivial)⟩) ?_
 refine xr ?_
 iterate 5 refine xp ?_
 obtain ⟨v1, hv1, h⟩ := bindO h
 refine xc (f82_ok a0.near (fun y0 => some (f83 y0 peer)) (fun y0 r h => f83_ok y0 peer r (Option.some.inj h)) _ hv1) ?_
 refine xp ?_
 refine xq ?_
 refine vc_seq ?_
 refine xsr ?_
 iterate 2 refine xp ?_
 refine xq ?_
 cases c2 : decide (v1 < 0) with
 | true =>
  have h := cT c2 h
  refine vc_condT rfl ?_
  refine xsr ?_
  refine xp ?_
  refine xw ?_
  refine xp ?_
  refine xq ?_
  replace h := Option.some.inj h
  refine vc_ret ⟨.inr rfl, [encNear ⟨0, 0, ⟨[], [], []⟩, ⟨I 0, I 0, I 0, I 0, I 0, I 0, I 0, I 0, I 0, I 0, .lit (.slice none 0 0), B false, .lit (.slice none 0 0), .lit (.slice none 0 0), .lit (.slice none 0 0), I 0, I 0, .lit (.int .u64 0), I 0, I 0, I 0, I 0, I 0, .lit (.slice none 0 0), .lit (.slice none 0 0), B false⟩⟩, B false], (.cons rfl ⟨_, .d, (.agg' (.cons .refl (.cons .refl (.cons .refl (.cons .refl (.cons .refl (.cons .refl (.cons .refl (.cons .refl (.cons .refl (.cons .refl (.cons .refl (.cons .refl (.cons .nil (.cons .nil (.cons .nil (.cons .refl (.cons .refl (.cons .refl (.cons .refl (.cons .refl (.cons .refl (.cons .refl (.cons .refl (.cons .refl (.cons .refl (.cons .refl (.cons .refl (.cons .refl (.cons .refl (.cons .refl (.cons .refl .nil))))))))))))))))))))))))))))))))⟩ (.cons rfl ⟨_, .d, .refl⟩ .nil)), ?_⟩
  first | (rw [← h]; done) | (rw [← h]; rfl) | (rw [← h]; simp)
 | false =>
  have h := cF c2 h
  refine vc_condF rfl ?_
  refine vc_skip ?_
  refine xsr ?_
  iterate 5 refine xp ?_
  obtain ⟨v3, hv3, h⟩ := bindO h
  refine ri rfl rfl rfl rfl rfl rfl rfl (elt0 hv3) (eltm _ hv3) ?_
  refine xp ?_
  refine xw ?_
  refine xp ?_
  refine xq ?_
  replace h := Option.some.inj h
  refine vc_ret ⟨.inr rfl, [encNear v3, B true], (.cons rfl ⟨_, .d, .refl⟩ (.cons rfl ⟨_, .d, .refl⟩ .nil)), ?_⟩
  first | (rw [← h]; done) | (rw [← h]; rfl) | (rw [← h]; simp)
def f54_L1 (p_a1 : Grant → Option (Bool)) : List Grant → Int → Option (Sum (Unit) (Int))
 | [], i1 => some (.inl ())
 | x2 :: l, i1 => Option.bind (p_a1 x2) fun v6 => cond v6 (some (.inr i1)) (f54_L1 p_a1 l (i1 + 1))
def f54 (a0 : (List Grant)) (p_a1 : Grant → Option (Bool)) : Option (Int) := Option.bind (f54_L1 p_a1 a0 0) fun v3 => Sum.elim (fun v4 => some (-1)) (fun v5 => some v5) v3
theorem f54_ok {g_a1 : FuncId} {c_a1 : List D} (a0 : (List Grant)) (p_a1 : Grant → Option (Bool)) (hp_a1 : ∀ (y0 : Grant) r, p_a1 y0 = some r → PCalls Tryz.prog g_a1 ((encGrant y0) :: c_a1) (B r)) (r : Int) (h : f54 a0 p_a1 = some r) : PCalls Tryz.prog 54 [.list 5 (a0.map encGrant), .fn (.func g_a1) [] c_a1] (I r) := by
 unfold f54 at h
 refine xe 19 Tryz.func54 ?_
 refine xsr ?_
 refine xp ?_
 refine xq ?_
 refine vc_seq ?_
 refine xsr ?_
 refine xp ?_
 refine xl ?_
 refine xp ?_
 refine xq ?_
 obtain ⟨v3, hv3, hLv3⟩ := bindO h
 refine vc_mid2 v3 (fun v4 => []) (fun v4 => []) ?_ ?_
 ·refine vc_block ?_
  refine vc_loop ?_
  refine xK [] [(0, .d (.list 5 (a0.map encGrant))), (1, .d (.fn (.func g_a1) [] c_a1)), (7, .d (I (a0.length : Int))), (8, .d (I 0))] .nil (xh3 (xh1 trivial)) ?_
  refine vcl_len 0 rfl (fun hlen => ?_)
  replace hlen := len_map hlen
  refine vcl_rec a0 (fun (pre l : List Grant) (s : Unit) => f54_L1 p_a1 l (pre.length : Int)) (some v3) (fun pre s => envOf [(0, .d (.list 5 (a0.map encGrant))), (1, .d (.fn (.func g_a1) [] c_a1)), (7, .d (I (a0.length : Int))), (8, .d (I (pre.length : Int)))]) (fun pre s => []) ?step1 ?done1 () hv3
  case step1 =>
   rintro pre x2 l _ hpre hlt h ih
   have hprex2 := hpre
   replace h : f54_L1 p_a1 (x2 :: l) (pre.length : Int) = some v3 := h
   show VCL _ _ _ _ _ (envOf _) []
   obtain ⟨i1, hi⟩ : ∃ i : Int, i = (pre.length : Int) := ⟨_, rfl⟩
   have hix2 := hi
   rw [← hi] at h ⊢
   rw [f54_L1] at h
   refine vcl_unroll ?_
   refine xsr ?_
   refine xp ?_
   refine xq ?_
   refine vc_seq ?_
   refine vc_cond rfl (fun _ => ?_) (fun hf => absurd hf (by simp; omega))
   refine vc_skip ?_
   refine vc_seq ?_
   refine vc_block ?_
   refine xsr ?_
   iterate 2 refine xp ?_
   refine xq ?_
   refine xsr ?_
   iterate 3 refine xp ?_
   refine ri rfl rfl rfl rfl rfl rfl rfl (by omega) (by rw [hix2]; exact idxp hprex2) ?_
   refine xp ?_
   obtain ⟨v6, hv6, h⟩ := bindO h
   refine xc (hp_a1 x2 _ hv6) ?_
   refine xq ?_
   cases c7 : v6 with
   | true =>
    have h := cT c7 h
    refine vc_condT rfl ?_
    refine xsr ?_
    iterate 2 refine xp ?_
    refine xq ?_
    cases h
    have h := sumR hLv3
    replace h := Option.some.inj h
    refine vc_ret ⟨.inr rfl, [I i1], (.cons rfl ⟨_, .d, .refl⟩ .nil), ?_⟩
    first | (rw [← h]; done) | (rw [← h]; rfl) | (rw [← h]; simp)
   | false =>
    have h := cF c7 h
    refine vc_condF rfl ?_
    refine vc_skip ?_
    refine xr ?_
    iterate 2 refine xp ?_
    refine xq ?_
    exact xv [] (ih () (by show f54_L1 p_a1 _ (((pre ++ [x2]).length : Nat) : Int) = _; rw [cnt1, ← hi]; exact h)) .nil (xh3 ⟨.e rfl (cntI hi hlt hlen), trivial⟩)
  case done1 =>
   rintro _ h
   replace h : f54_L1 p_a1 [] (a0.length : Int) = some v3 := h
   rw [f54_L1] at h
   show VCL _ _ _ _ _ (envOf _) []
   refine vcl_unroll ?_
   refine xsr ?_
   refine xp ?_
   refine xq ?_
   refine vc_seq ?_
   refine vc_cond rfl (fun ht => absurd ht (by simp; try omega)) (fun _ => ?_)
   refine vc_exit ?_
   cases h
   exact xm [] .nil trivial
 ·rintro v4 rfl
  have h := sumL hLv3
  refine xsr ?_
  refine xp ?_
  refine xq ?_
  replace h := Option.some.inj h
  refine vc_ret ⟨.inr rfl, [I (-1)], (.cons rfl ⟨_, .d, .refl⟩ .nil), ?_⟩
  first | (rw [← h]; done) | (rw [← h]; rfl) | (rw [← h]; simp)
def f87 (a0 : (List Grant)) (p_a1 : Grant → Option (Bool)) : Option (Bool) := Option.bind (f54 a0 p_a1) fun v1 => some (decide (v1 ≥ 0))
theorem f87_ok {g_a1 : FuncId} {c_a1 : List D} (a0 : (List Grant)) (p_a1 : Grant → Option (Bool)) (hp_a1 : ∀ (y0 : Grant) r, p_a1 y0 = some r → PCalls Tryz.prog g_a1 ((encGrant y0) :: c_a1) (B r)) (r : Bool) (h : f87 a0 p_a1 = some r) : PCalls Tryz.prog 87 [.list 5 (a0.map encGrant), .fn (.func g_a1) [] c_a1] (B r) := by
 unfold f87 at h
 refine xe 9 Tryz.func87 ?_
 refine xsr ?_
 refine xp ?_
 refine xq ?_
 refine xsr ?_
 iterate 2 refine xp ?_
 obtain ⟨v1, hv1, h⟩ := bindO h
 refine xc (f54_ok a0 p_a1 hp_a1 _ hv1) ?_
 iterate 2 refine xp ?_
 refine xq ?_
 replace h := Option.some.inj h
 refine vc_ret ⟨.inr rfl, [B (decide (v1 ≥ 0))], (.cons rfl ⟨_, .d, .refl⟩ .nil), ?_⟩
 first | (rw [← h]; done) | (rw [← h]; rfl) | (rw [← h]; simp)
def f133_L1 (p_a1 : Use → Option (Bool)) : List Use → Int → Option (Sum (Unit) (Int))
 | [], i1 => some (.inl ())
 | x2 :: l, i1 => Option.bind (p_a1 x2) fun v6 => cond v6 (some (.inr i1)) (f133_L1 p_a1 l (i1 + 1))
def f133 (a0 : (List Use)) (p_a1 : Use → Option (Bool)) : Option (Int) := Option.bind (f133_L1 p_a1 a0 0) fun v3 => Sum.elim (fun v4 => some (-1)) (fun v5 => some v5) v3
theorem f133_ok {g_a1 : FuncId} {c_a1 : List D} (a0 : (List Use)) (p_a1 : Use → Option (Bool)) (hp_a1 : ∀ (y0 : Use) r, p_a1 y0 = some r → PCalls Tryz.prog g_a1 ((encUse y0) :: c_a1) (B r)) (r : Int) (h : f133 a0 p_a1 = some r) : PCalls Tryz.prog 133 [.list 4 (a0.map encUse), .fn (.func g_a1) [] c_a1] (I r) := by
 unfold f133 at h
 refine xe 19 Tryz.func133 ?_
 refine xsr ?_
 refine xp ?_
 refine xq ?_
 refine vc_seq ?_
 refine xsr ?_
 refine xp ?_
 refine xl ?_
 refine xp ?_
 refine xq ?_
 obtain ⟨v3, hv3, hLv3⟩ := bindO h
 refine vc_mid2 v3 (fun v4 => []) (fun v4 => []) ?_ ?_
 ·refine vc_block ?_
  refine vc_loop ?_
  refine xK [] [(0, .d (.list 4 (a0.map encUse))), (1, .d (.fn (.func g_a1) [] c_a1)), (7, .d (I (a0.length : Int))), (8, .d (I 0))] .nil (xh3 (xh1 trivial)) ?_
  refine vcl_len 0 rfl (fun hlen => ?_)
  replace hlen := len_map hlen
  refine vcl_rec a0 (fun (pre l : List Use) (s : Unit) => f133_L1 p_a1 l (pre.length : Int)) (some v3) (fun pre s => envOf [(0, .d (.list 4 (a0.map encUse))), (1, .d (.fn (.func g_a1) [] c_a1)), (7, .d (I (a0.length : Int))), (8, .d (I (pre.length : Int)))]) (fun pre s => []) ?step1 ?done1 () hv3
  case step1 =>
   rintro pre x2 l _ hpre hlt h ih
   have hprex2 := hpre
   replace h : f133_L1 p_a1 (x2 :: l) (pre.length : Int) = some v3 := h
   show VCL _ _ _ _ _ (envOf _) []
   obtain ⟨i1, hi⟩ : ∃ i : Int, i = (pre.length : Int) := ⟨_, rfl⟩
   have hix2 := hi
   rw [← hi] at h ⊢
   rw [f133_L1] at h
   refine vcl_unroll ?_
   refine xsr ?_
   refine xp ?_
   refine xq ?_
   refine vc_seq ?_
   refine vc_cond rfl (fun _ => ?_) (fun hf => absurd hf (by simp; omega))
   refine vc_skip ?_
   refine vc_seq ?_
   refine vc_block ?_
   refine xsr ?_
   iterate 2 refine xp ?_
   refine xq ?_
   refine xsr ?_
   iterate 3 refine xp ?_
   refine ri rfl rfl rfl rfl rfl rfl rfl (by omega) (by rw [hix2]; exact idxp hprex2) ?_
   refine xp ?_
   obtain ⟨v6, hv6, h⟩ := bindO h
   refine xc (hp_a1 x2 _ hv6) ?_
   refine xq ?_
   cases c7 : v6 with
   | true =>
    have h := cT c7 h
    refine vc_condT rfl ?_
    refine xsr ?_
    iterate 2 refine xp ?_
    refine xq ?_
    cases h
    have h := sumR hLv3
    replace h := Option.some.inj h
    refine vc_ret ⟨.inr rfl, [I i1], (.cons rfl ⟨_, .d, .refl⟩ .nil), ?_⟩
    first | (rw [← h]; done) | (rw [← h]; rfl) | (rw [← h]; simp)
   | false =>
    have h := cF c7 h
    refine vc_condF rfl ?_
    refine vc_skip ?_
    refine xr ?_
    iterate 2 refine xp ?_
    refine xq ?_
    exact xv [] (ih () (by show f133_L1 p_a1 _ (((pre ++ [x2]).length : Nat) : Int) = _; rw [cnt1, ← hi]; exact h)) .nil (xh3 ⟨.e rfl (cntI hi hlt hlen), trivial⟩)
  case done1 =>
   rintro _ h
   replace h : f133_L1 p_a1 [] (a0.length : Int) = some v3 := h
   rw [f133_L1] at h
   show VCL _ _ _ _ _ (envOf _) []
   refine vcl_unroll ?_
   refine xsr ?_
   refine xp ?_
   refine xq ?_
   refine vc_seq ?_
   refine vc_cond rfl (fun ht => absurd ht (by simp; try omega)) (fun _ => ?_)
   refine vc_exit ?_
   cases h
   exact xm [] .nil trivial
 ·rintro v4 rfl
  have h := sumL hLv3
  refine xsr ?_
  refine xp ?_
  refine xq ?_
  replace h := Option.some.inj h
  refine vc_ret ⟨.inr rfl, [I (-1)], (.cons rfl ⟨_, .d, .refl⟩ .nil), ?_⟩
  first | (rw [← h]; done) | (rw [← h]; rfl) | (rw [← h]; simp)
def f98 (a0 : (List Use)) (p_a1 : Use → Option (Bool)) : Option (Bool) := Option.bind (f133 a0 p_a1) fun v1 => some (decide (v1 ≥ 0))
theorem f98_ok {g_a1 : FuncId} {c_a1 : List D} (a0 : (List Use)) (p_a1 : Use → Option (Bool)) (hp_a1 : ∀ (y0 : Use) r, p_a1 y0 = some r → PCalls Tryz.prog g_a1 ((encUse y0) :: c_a1) (B r)) (r : Bool) (h : f98 a0 p_a1 = some r) : PCalls Tryz.prog 98 [.list 4 (a0.map encUse), .fn (.func g_a1) [] c_a1] (B r) := by
 unfold f98 at h
 refine xe 9 Tryz.func98 ?_
 refine xsr ?_
 refine xp ?_
 refine xq ?_
 refine xsr ?_
 iterate 2 refine xp ?_
 obtain ⟨v1, hv1, h⟩ := bindO h
 refine xc (f133_ok a0 p_a1 hp_a1 _ hv1) ?_
 iterate 2 refine xp ?_
 refine xq ?_
 replace h := Option.some.inj h
 refine vc_ret ⟨.inr rfl, [B (decide (v1 ≥ 0))], (.cons rfl ⟨_, .d, .refl⟩ .nil), ?_⟩
 first | (rw [← h]; done) | (rw [← h]; rfl) | (rw [← h]; simp)
def f119 (a0 : Use) (c0 : Int) : Bool := (a0.cell.slot == c0)
theorem f119_ok (a0 : Use) (c0 : Int) (r : Bool) (h : f119 a0 c0 = r) : PCalls Tryz.prog 119 [encUse a0, .ptr [I c0]] (B r) := by
 unfold f119 at h
 refine xe 9 Tryz.func119 ?_
 refine xsr ?_
 refine xa ?_
 refine xp ?_
 refine xq ?_
 refine vc_seq ?_
 refine xk [] [(1, .d (.ptr [I c0])), (2, .d (.ptr (encUse a0).cells))] .nil (xh1 ⟨.z (.own' rfl (.cons .d (.cons .d (.cons .d (.cons .d .nil))))) .refl, trivial⟩) ?_
 refine xr ?_
 iterate 6 refine xp ?_
 refine xq ?_
 refine vc_ret ⟨.inr rfl, [B (a0.cell.slot == c0)], (.cons rfl ⟨_, .d, .refl⟩ .nil), ?_⟩
 first | (rw [← h]; done) | (rw [← h]; rfl) | (rw [← h]; simp)
def f120 (a0 : Grant) (c0 : Int) : Bool := (a0.cell.slot == c0)
theorem f120_ok (a0 : Grant) (c0 : Int) (r : Bool) (h : f120 a0 c0 = r) : PCalls Tryz.prog 120 [encGrant a0, .ptr [I c0]] (B r) := by
 unfold f120 at h
 refine xe 9 Tryz.func120 ?_
 refine xsr ?_
 refine xa ?_
 refine xp ?_
 refine xq ?_
 refine vc_seq ?_
 refine xk [] [(1, .d (.ptr [I c0])), (2, .d (.ptr (encGrant a0).cells))] .nil (xh1 ⟨.z (.own' rfl (.cons .d (.cons .d (.cons .d (.cons .d (.cons .d .nil)))))) .refl, trivial⟩) ?_
 refine xr ?_
 iterate 6 refine xp ?_
 refine xq ?_
 refine vc_ret ⟨.inr rfl, [B (a0.cell.slot == c0)], (.cons rfl ⟨_, .d, .refl⟩ .nil), ?_⟩
 first | (rw [← h]; done) | (rw [← h]; rfl) | (rw [← h]; simp)
def kCBusy (t : Table) (slot : Int) : Option (Bool) := Option.bind (Option.bind (f98 t.uses (fun y0 => some (f119 y0 slot))) fun v2 => cond v2 (some true) (Option.bind (f87 t.grants (fun y0 => some (f120 y0 slot))) fun v4 => some v4)) fun v1 => some v1
theorem kCBusy_ok (t : Table) (slot : Int) (r : Bool) (h : kCBusy t slot = some r) : PCalls Tryz.prog 84 [encTable t, I slot] (B r) := by
 unfold kCBusy at h
 refine xe 15 Tryz.func84 ?_
 refine xsr ?_
 refine xa ?_
 refine xa ?_
 refine xp ?_
 refine xq ?_
 refine vc_seq ?_
 refine xk [] [(2, .d (.ptr [.list 4 (t.uses.map encUse), .list 5 (t.grants.map encGrant), .list 3 (t.asks.map encAsk)])), (3, .d (.ptr [I slot]))] .nil ⟨.z (.own' rfl (.cons .d (.cons .d (.cons .d .nil)))) .refl, .z (.own' rfl (.cons .d .nil)) .refl, trivial⟩ ?_
 obtain ⟨v1, hv1, h⟩ := bindO h
 refine vc_midQ [(4, .d (B v1))] [] ?_ ?_
 ·replace h := hv1; clear hv1
  refine xr ?_
  iterate 3 refine xp ?_
  obtain ⟨v2, hv2, h⟩ := bindO h
  refine xc (f98_ok t.uses (fun y0 => some (f119 y0 slot)) (fun y0 r h => f119_ok y0 slot r (Option.some.inj h)) _ hv2) ?_
  refine xp ?_
  cases c3 : v2 with
  | true =>
   have h := cT c3 h
   iterate 4 refine xs ?_
   iterate 2 refine xp ?_
   cases h
   refine xq ?_
   exact xm [] .nil (xh1 trivial)
  | false =>
   have h := cF c3 h
   iterate 3 refine xp ?_
   obtain ⟨v4, hv4, h⟩ := bindO h
   refine xc (f87_ok t.grants (fun y0 => some (f120 y0 slot)) (fun y0 r h => f120_ok y0 slot r (Option.some.inj h)) _ hv4) ?_
   iterate 2 refine xp ?_
   cases h
   refine xq ?_
   exact xm [] .nil (xh1 trivial)
 ·replace h := Option.some.inj h
  refine vc_ret ⟨.inr rfl, [B v1], (.cons rfl ⟨_, .d, .refl⟩ .nil), ?_⟩
  first | (rw [← h]; done) | (rw [← h]; rfl) | (rw [← h]; simp)
def f85 (a0 : (List Near)) (p_a1 : Near → Option (Bool)) : Option (Bool) := Option.bind (f82 a0 p_a1) fun v1 => some (decide (v1 ≥ 0))
theorem f85_ok {g_a1 : FuncId} {c_a1 : List D} (a0 : (List Near)) (p_a1 : Near → Option (Bool)) (hp_a1 : ∀ (y0 : Near) r, p_a1 y0 = some r → PCalls Tryz.prog g_a1 ((encNear y0) :: c_a1) (B r)) (r : Bool) (h : f85 a0 p_a1 = some r) : PCalls Tryz.prog 85 [.list 31 (a0.map encNear), .fn (.func g_a1) [] c_a1] (B r) := by
 unfold f85 at h
 refine xe 9 Tryz.func85 ?_
 refine xsr ?_
 refine xp ?_
 refine xq ?_
 refine xsr ?_
 iterate 2 refine xp ?_
 obtain ⟨v1, hv1, h⟩ := bindO h
 refine xc (f82_ok a0 p_a1 hp_a1 _ hv1) ?_
 iterate 2 refine xp ?_
 refine xq ?_
 replace h := Option.some.inj h
 refine vc_ret ⟨.inr rfl, [B (decide (v1 ≥ 0))], (.cons rfl ⟨_, .d, .refl⟩ .nil), ?_⟩
 first | (rw [← h]; done) | (rw [← h]; rfl) | (rw [← h]; simp)
def f88 (a0 : Grant) (c0 : Cell) (c1 : Side) : Bool := (((a0.cell.slot == c0.slot) && ((a0.cell.offset == c0.offset) && true)) && (a0.peer != c1.me))
theorem f88_ok (a0 : Grant) (c0 : Cell) (c1 : Side) (r : Bool) (h : f88 a0 c0 c1 = r) : PCalls Tryz.prog 88 [encGrant a0, .ptr [I c0.slot, I c0.offset], .ptr [.ptr (encSideS c1).cells]] (B r) := by
 unfold f88 at h
 refine xe 18 Tryz.func88 ?_
 refine xsr ?_
 refine xa ?_
 refine xp ?_
 refine xq ?_
 refine vc_seq ?_
 refine xk [] [(1, .d (.ptr [I c0.slot, I c0.offset])), (2, .d (.ptr [.ptr (encSideS c1).cells])), (3, .d (.ptr (encGrant a0).cells))] .nil (xh2 ⟨.z (.own' rfl (.cons .d (.cons .d (.cons .d (.cons .d (.cons .d .nil)))))) .refl, trivial⟩) ?_
 refine vc_midQ [(4, .d (B (((a0.cell.slot == c0.slot) && ((a0.cell.offset == c0.offset) && true)) && (a0.peer != c1.me))))] [] ?_ ?_
 ·refine xd ?_
  iterate 5 refine xp ?_
  cases c1 : ((a0.cell.slot == c0.slot) && ((a0.cell.offset == c0.offset) && true)) with
  | true =>
   iterate 9 refine xp ?_
   refine xq ?_
   exact xm [] .nil (xh1 trivial)
  | false =>
   iterate 7 refine xs ?_
   iterate 2 refine xp ?_
   refine xq ?_
   exact xm [] .nil (xh1 trivial)
 ·refine vc_ret ⟨.inr rfl, [B (((a0.cell.slot == c0.slot) && ((a0.cell.offset == c0.offset) && true)) && (a0.peer != c1.me))], (.cons rfl ⟨_, .d, .refl⟩ .nil), ?_⟩
  first | (rw [← h]; done) | (rw [← h]; rfl) | (rw [← h]; simp)
def f86 (n : Near) (c0 : Cell) (c1 : Side) : Option (Bool) := Option.bind (f87 n.t.grants (fun y0 => some (f88 y0 ⟨c0.slot, c0.offset⟩ c1))) fun v1 => some v1
theorem f86_ok (n : Near) (c0 : Cell) (c1 : Side) (r : Bool) (h : f86 n c0 c1 = some r) : PCalls Tryz.prog 86 [encNear n, .ptr [I c0.slot, I c0.offset], .ptr [.ptr (encSideS c1).cells]] (B r) := by
 unfold f86 at h
 refine xe 10 Tryz.func86 ?_
 refine xsr ?_
 refine xa ?_
 refine xp ?_
 refine xq ?_
 refine vc_seq ?_
 refine xk [] [(1, .d (.ptr [I c0.slot, I c0.offset])), (2, .d (.ptr [.ptr (encSideS c1).cells])), (3, .d (.ptr (encNear n).cells))] .nil (xh2 ⟨.z (.own' rfl (.cons .d (.cons .d (.cons .d (.cons .d (.cons .d (.cons .d (.cons .d (.cons .d (.cons .d (.cons .d (.cons .d (.cons .d (.cons .d (.cons .d (.cons .d (.cons .d (.cons .d (.cons .d (.cons .d (.cons .d (.cons .d (.cons .d (.cons .d (.cons .d (.cons .d (.cons .d (.cons .d (.cons .d (.cons .d (.cons .d (.cons .d .nil)))))))))))))))))))))))))))))))) .refl, trivial⟩) ?_
 refine xr ?_
 iterate 4 refine xp ?_
 obtain ⟨v1, hv1, h⟩ := bindO h
 refine xc (f87_ok n.t.grants (fun y0 => some (f88 y0 ⟨c0.slot, c0.offset⟩ c1)) (fun y0 r h => f88_ok y0 ⟨c0.slot, c0.offset⟩ c1 r (Option.some.inj h)) _ hv1) ?_
 refine xp ?_
 refine xq ?_
 replace h := Option.some.inj h
 refine vc_ret ⟨.inr rfl, [B v1], (.cons rfl ⟨_, .d, .refl⟩ .nil), ?_⟩
 first | (rw [← h]; done) | (rw [← h]; rfl) | (rw [← h]; simp)
def kBPossible (a0 : Side) (t : Table) (peer : Near) (a3 : Cell) : Option (Bool) := Option.bind (Option.bind (kCBusy t a3.slot) fun v2 => cond v2 (some true) (Option.bind (kCBusy ⟨peer.t.uses, peer.t.grants, []⟩ a3.slot) fun v4 => some v4)) fun v1 => cond v1 (some false) (Option.bind (f85 a0.near (fun y0 => f86 y0 ⟨a3.slot, a3.offset⟩ a0)) fun v6 => some (!v6))
theorem kBPossible_ok (a0 : Side) (t : Table) (peer : Near) (a3 : Cell) (r : Bool) (h : kBPossible a0 t peer a3 = some r) : PCalls Tryz.prog 39 [.ptr (encSideS a0).cells, encTable t, encNear peer, encCell a3] (B r) := by
 unfold kBPossible at h
 refine xe 32 Tryz.func39 ?_
 refine xsr ?_
 refine xa ?_
 refine xa ?_
 refine xa ?_
 refine xa ?_
 refine xp ?_
 refine xq ?_
 refine vc_seq ?_
 refine vc_seq ?_
 refine xk [] [(4, .d (.ptr [.ptr (encSideS a0).cells])), (5, .d (.ptr [.list 4 (t.uses.map encUse), .list 5 (t.grants.map encGrant), .list 3 (t.asks.map encAsk)])), (6, .d (.ptr (encNear peer).cells)), (7, .d (.ptr [I a3.slot, I a3.offset]))] .nil ⟨.z (.own' rfl (.cons .d .nil)) .refl, .z (.own' rfl (.cons .d (.cons .d (.cons .d .nil)))) .refl, .z (.own' rfl (.cons .d (.cons .d (.cons .d (.cons .d (.cons .d (.cons .d (.cons .d (.cons .d (.cons .d (.cons .d (.cons .d (.cons .d (.cons .d (.cons .d (.cons .d (.cons .d (.cons .d (.cons .d (.cons .d (.cons .d (.cons .d (.cons .d (.cons .d (.cons .d (.cons .d (.cons .d (.cons .d (.cons .d (.cons .d (.cons .d (.cons .d .nil)))))))))))))))))))))))))))))))) .refl, .z (.own' rfl (.cons .d (.cons .d .nil))) .refl, trivial⟩ ?_
 obtain ⟨v1, hv1, h⟩ := bindO h
 refine vc_midQ [(4, .d (.ptr [.ptr (encSideS a0).cells])), (7, .d (.ptr [I a3.slot, I a3.offset])), (24, .d (B v1))] [] ?_ ?_
 ·replace h := hv1; clear hv1
  refine xr ?_
  iterate 3 refine xp ?_
  obtain ⟨v2, hv2, h⟩ := bindO h
  refine xc (kCBusy_ok t a3.slot _ hv2) ?_
  refine xp ?_
  cases c3 : v2 with
  | true =>
   have h := cT c3 h
   iterate 10 refine xs ?_
   refine xp ?_
   cases h
   refine xq ?_
   exact xm [] .nil (xh3 trivial)
  | false =>
   have h := cF c3 h
   iterate 9 refine xp ?_
   obtain ⟨v4, hv4, h⟩ := bindO h
   refine xc ((kCBusy_ok ⟨peer.t.uses, peer.t.grants, []⟩ a3.slot _ hv4).args (.cons (.agg' (.cons .refl (.cons .refl (.cons .nil .nil)))) (.cons .refl .nil))) ?_
   refine xp ?_
   cases h
   refine xq ?_
   exact xm [] .nil (xh3 trivial)
 ·cases c5 : v1 with
  | true =>
   have h := cT c5 h
   refine vc_condT rfl ?_
   refine xsr ?_
   refine xp ?_
   refine xq ?_
   replace h := Option.some.inj h
   refine vc_ret ⟨.inr rfl, [B false], (.cons rfl ⟨_, .d, .refl⟩ .nil), ?_⟩
   first | (rw [← h]; done) | (rw [← h]; rfl) | (rw [← h]; simp)
  | false =>
   have h := cF c5 h
   refine vc_condF rfl ?_
   refine vc_skip ?_
   refine xsr ?_
   iterate 5 refine xp ?_
   obtain ⟨v6, hv6, h⟩ := bindO h
   refine xc (f85_ok a0.near (fun y0 => f86 y0 ⟨a3.slot, a3.offset⟩ a0) (fun y0 r h => f86_ok y0 ⟨a3.slot, a3.offset⟩ a0 r h) _ hv6) ?_
   iterate 2 refine xp ?_
   refine xq ?_
   replace h := Option.some.inj h
   refine vc_ret ⟨.inr rfl, [B (!v6)], (.cons rfl ⟨_, .d, .refl⟩ .nil), ?_⟩
   first | (rw [← h]; done) | (rw [← h]; rfl) | (rw [← h]; simp)
def f38 (a0 : Cell) (c0 : Side) (c1 : Table) (c2 : Near) : Option (Bool) := Option.bind (kBPossible c0 c1 c2 a0) fun v1 => some v1
theorem f38_ok (a0 : Cell) (c0 : Side) (c1 : Table) (c2 : Near) (r : Bool) (h : f38 a0 c0 c1 c2 = some r) : PCalls Tryz.prog 38 [encCell a0, .ptr [.ptr (encSideS c0).cells], .ptr [.list 4 (c1.uses.map encUse), .list 5 (c1.grants.map encGrant), .list 3 (c1.asks.map encAsk)], .ptr (encNear c2).cells] (B r) := by
 unfold f38 at h
 refine xe 11 Tryz.func38 ?_
 refine xsr ?_
 refine xa ?_
 refine xp ?_
 refine xq ?_
 refine vc_seq ?_
 refine xk [] [(1, .d (.ptr [.ptr (encSideS c0).cells])), (2, .d (.ptr [.list 4 (c1.uses.map encUse), .list 5 (c1.grants.map encGrant), .list 3 (c1.asks.map encAsk)])), (3, .d (.ptr (encNear c2).cells)), (4, .d (.ptr [I a0.slot, I a0.offset]))] .nil (xh3 ⟨.z (.own' rfl (.cons .d (.cons .d .nil))) .refl, trivial⟩) ?_
 refine xr ?_
 iterate 4 refine xp ?_
 obtain ⟨v1, hv1, h⟩ := bindO h
 refine xc (kBPossible_ok c0 c1 c2 a0 _ hv1) ?_
 refine xp ?_
 refine xq ?_
 replace h := Option.some.inj h
 refine vc_ret ⟨.inr rfl, [B v1], (.cons rfl ⟨_, .d, .refl⟩ .nil), ?_⟩
 first | (rw [← h]; done) | (rw [← h]; rfl) | (rw [← h]; simp)
def f41 (a : Ask) (c0 : Int) (p_c1 : Cell → Option (Bool)) : Option (Bool) := Option.bind (cond (a.peer == c0) (Option.bind (p_c1 a.cell) fun v3 => some v3) (some false)) fun v1 => some v1
theorem f41_ok {g_c1 : FuncId} {c_c1 : List D} (a : Ask) (c0 : Int) (p_c1 : Cell → Option (Bool)) (hp_c1 : ∀ (y0 : Cell) r, p_c1 y0 = some r → PCalls Tryz.prog g_c1 ((encCell y0) :: c_c1) (B r)) (r : Bool) (h : f41 a c0 p_c1 = some r) : PCalls Tryz.prog 41 [encAsk a, .ptr [I c0], .ptr [.fn (.func g_c1) [] c_c1]] (B r) := by
 unfold f41 at h
 refine xe 15 Tryz.func41 ?_
 refine xsr ?_
 refine xa ?_
 refine xp ?_
 refine xq ?_
 refine vc_seq ?_
 refine xk [] [(1, .d (.ptr [I c0])), (2, .d (.ptr [.fn (.func g_c1) [] c_c1])), (3, .d (.ptr [I a.cell.slot, I a.cell.offset, I a.peer]))] .nil (xh2 ⟨.z (.own' rfl (.cons .d (.cons .d (.cons .d .nil)))) .refl, trivial⟩) ?_
 obtain ⟨v1, hv1, h⟩ := bindO h
 refine vc_midQ [(4, .d (B v1))] [] ?_ ?_
 ·replace h := hv1; clear hv1
  refine xr ?_
  iterate 5 refine xp ?_
  cases c2 : (a.peer == c0) with
  | true =>
   have h := cT c2 h
   iterate 3 refine xp ?_
   obtain ⟨v3, hv3, h⟩ := bindO h
   refine xc (hp_c1 a.cell _ hv3) ?_
   iterate 2 refine xp ?_
   cases h
   refine xq ?_
   exact xm [] .nil (xh1 trivial)
  | false =>
   have h := cF c2 h
   iterate 4 refine xs ?_
   iterate 2 refine xp ?_
   cases h
   refine xq ?_
   exact xm [] .nil (xh1 trivial)
 ·replace h := Option.some.inj h
  refine vc_ret ⟨.inr rfl, [B v1], (.cons rfl ⟨_, .d, .refl⟩ .nil), ?_⟩
  first | (rw [← h]; done) | (rw [← h]; rfl) | (rw [← h]; simp)
def kTries (a0 : Side) : D := .fn (.func 89) [] [.ptr [.ptr (encSideS a0).cells]]
theorem kTries_ok (a0 : Side) (r : D) (h : kTries a0 = r) : PCalls Tryz.prog 42 [.ptr (encSideS a0).cells] (r) := by
 unfold kTries at h
 refine xe 4 Tryz.func42 ?_
 refine xsr ?_
 refine xa ?_
 refine xp ?_
 refine xq ?_
 refine vc_seq ?_
 refine xk [] [(1, .d (.ptr [.ptr (encSideS a0).cells]))] .nil ⟨.z (.own' rfl (.cons .d .nil)) .refl, trivial⟩ ?_
 refine xr ?_
 iterate 2 refine xp ?_
 refine xq ?_
 refine vc_ret ⟨.inr rfl, [.fn (.func 89) [] [.ptr [.ptr (encSideS a0).cells]]], (.cons rfl ⟨_, .d, .refl⟩ .nil), ?_⟩
 first | (rw [← h]; done) | (rw [← h]; rfl) | (rw [← h]; simp)
def f90_L1 (p_a1 : Ask → Option (Bool)) : List Ask → Int → Option (Sum (Unit) (Int))
 | [], i1 => some (.inl ())
 | x2 :: l, i1 => Option.bind (p_a1 x2) fun v6 => cond v6 (some (.inr i1)) (f90_L1 p_a1 l (i1 + 1))
def f90 (a0 : (List Ask)) (p_a1 : Ask → Option (Bool)) : Option (Int) := Option.bind (f90_L1 p_a1 a0 0) fun v3 => Sum.elim (fun v4 => some (-1)) (fun v5 => some v5) v3
theorem f90_ok {g_a1 : FuncId} {c_a1 : List D} (a0 : (List Ask)) (p_a1 : Ask → Option (Bool)) (hp_a1 : ∀ (y0 : Ask) r, p_a1 y0 = some r → PCalls Tryz.prog g_a1 ((encAsk y0) :: c_a1) (B r)) (r : Int) (h : f90 a0 p_a1 = some r) : PCalls Tryz.prog 90 [.list 3 (a0.map encAsk), .fn (.func g_a1) [] c_a1] (I r) := by
 unfold f90 at h
 refine xe 19 Tryz.func90 ?_
 refine xsr ?_
 refine xp ?_
 refine xq ?_
 refine vc_seq ?_
 refine xsr ?_
 refine xp ?_
 refine xl ?_
 refine xp ?_
 refine xq ?_
 obtain ⟨v3, hv3, hLv3⟩ := bindO h
 refine vc_mid2 v3 (fun v4 => []) (fun v4 => []) ?_ ?_
 ·refine vc_block ?_
  refine vc_loop ?_
  refine xK [] [(0, .d (.list 3 (a0.map encAsk))), (1, .d (.fn (.func g_a1) [] c_a1)), (7, .d (I (a0.length : Int))), (8, .d (I 0))] .nil (xh3 (xh1 trivial)) ?_
  refine vcl_len 0 rfl (fun hlen => ?_)
  replace hlen := len_map hlen
  refine vcl_rec a0 (fun (pre l : List Ask) (s : Unit) => f90_L1 p_a1 l (pre.length : Int)) (some v3) (fun pre s => envOf [(0, .d (.list 3 (a0.map encAsk))), (1, .d (.fn (.func g_a1) [] c_a1)), (7, .d (I (a0.length : Int))), (8, .d (I (pre.length : Int)))]) (fun pre s => []) ?step1 ?done1 () hv3
  case step1 =>
   rintro pre x2 l _ hpre hlt h ih
   have hprex2 := hpre
   replace h : f90_L1 p_a1 (x2 :: l) (pre.length : Int) = some v3 := h
   show VCL _ _ _ _ _ (envOf _) []
   obtain ⟨i1, hi⟩ : ∃ i : Int, i = (pre.length : Int) := ⟨_, rfl⟩
   have hix2 := hi
   rw [← hi] at h ⊢
   rw [f90_L1] at h
   refine vcl_unroll ?_
   refine xsr ?_
   refine xp ?_
   refine xq ?_
   refine vc_seq ?_
   refine vc_cond rfl (fun _ => ?_) (fun hf => absurd hf (by simp; omega))
   refine vc_skip ?_
   refine vc_seq ?_
   refine vc_block ?_
   refine xsr ?_
   iterate 2 refine xp ?_
   refine xq ?_
   refine xsr ?_
   iterate 3 refine xp ?_
   refine ri rfl rfl rfl rfl rfl rfl rfl (by omega) (by rw [hix2]; exact idxp hprex2) ?_
   refine xp ?_
   obtain ⟨v6, hv6, h⟩ := bindO h
   refine xc (hp_a1 x2 _ hv6) ?_
   refine xq ?_
   cases c7 : v6 with
   | true =>
    have h := cT c7 h
    refine vc_condT rfl ?_
    refine xsr ?_
    iterate 2 refine xp ?_
    refine xq ?_
    cases h
    have h := sumR hLv3
    replace h := Option.some.inj h
    refine vc_ret ⟨.inr rfl, [I i1], (.cons rfl ⟨_, .d, .refl⟩ .nil), ?_⟩
    first | (rw [← h]; done) | (rw [← h]; rfl) | (rw [← h]; simp)
   | false =>
    have h := cF c7 h
    refine vc_condF rfl ?_
    refine vc_skip ?_
    refine xr ?_
    iterate 2 refine xp ?_
    refine xq ?_
    exact xv [] (ih () (by show f90_L1 p_a1 _ (((pre ++ [x2]).length : Nat) : Int) = _; rw [cnt1, ← hi]; exact h)) .nil (xh3 ⟨.e rfl (cntI hi hlt hlen), trivial⟩)
  case done1 =>
   rintro _ h
   replace h : f90_L1 p_a1 [] (a0.length : Int) = some v3 := h
   rw [f90_L1] at h
   show VCL _ _ _ _ _ (envOf _) []
   refine vcl_unroll ?_
   refine xsr ?_
   refine xp ?_
   refine xq ?_
   refine vc_seq ?_
   refine vc_cond rfl (fun ht => absurd ht (by simp; try omega)) (fun _ => ?_)
   refine vc_exit ?_
   cases h
   exact xm [] .nil trivial
 ·rintro v4 rfl
  have h := sumL hLv3
  refine xsr ?_
  refine xp ?_
  refine xq ?_
  replace h := Option.some.inj h
  refine vc_ret ⟨.inr rfl, [I (-1)], (.cons rfl ⟨_, .d, .refl⟩ .nil), ?_⟩
  first | (rw [← h]; done) | (rw [← h]; rfl) | (rw [← h]; simp)
def f43 (a0 : (List Ask)) (p_a1 : Ask → Option (Bool)) : Option (Bool) := Option.bind (f90 a0 p_a1) fun v1 => some (decide (v1 ≥ 0))
theorem f43_ok {g_a1 : FuncId} {c_a1 : List D} (a0 : (List Ask)) (p_a1 : Ask → Option (Bool)) (hp_a1 : ∀ (y0 : Ask) r, p_a1 y0 = some r → PCalls Tryz.prog g_a1 ((encAsk y0) :: c_a1) (B r)) (r : Bool) (h : f43 a0 p_a1 = some r) : PCalls Tryz.prog 43 [.list 3 (a0.map encAsk), .fn (.func g_a1) [] c_a1] (B r) := by
 unfold f43 at h
 refine xe 9 Tryz.func43 ?_
 refine xsr ?_
 refine xp ?_
 refine xq ?_
 refine xsr ?_
 iterate 2 refine xp ?_
 obtain ⟨v1, hv1, h⟩ := bindO h
 refine xc (f90_ok a0 p_a1 hp_a1 _ hv1) ?_
 iterate 2 refine xp ?_
 refine xq ?_
 replace h := Option.some.inj h
 refine vc_ret ⟨.inr rfl, [B (decide (v1 ≥ 0))], (.cons rfl ⟨_, .d, .refl⟩ .nil), ?_⟩
 first | (rw [← h]; done) | (rw [← h]; rfl) | (rw [← h]; simp)
def f44 (a : Ask) (c0 : Cell) : Bool := (a.cell.slot == c0.slot)
theorem f44_ok (a : Ask) (c0 : Cell) (r : Bool) (h : f44 a c0 = r) : PCalls Tryz.prog 44 [encAsk a, .ptr [I c0.slot, I c0.offset]] (B r) := by
 unfold f44 at h
 refine xe 10 Tryz.func44 ?_
 refine xsr ?_
 refine xa ?_
 refine xp ?_
 refine xq ?_
 refine vc_seq ?_
 refine xk [] [(1, .d (.ptr [I c0.slot, I c0.offset])), (2, .d (.ptr [I a.cell.slot, I a.cell.offset, I a.peer]))] .nil (xh1 ⟨.z (.own' rfl (.cons .d (.cons .d (.cons .d .nil)))) .refl, trivial⟩) ?_
 refine xr ?_
 iterate 7 refine xp ?_
 refine xq ?_
 refine vc_ret ⟨.inr rfl, [B (a.cell.slot == c0.slot)], (.cons rfl ⟨_, .d, .refl⟩ .nil), ?_⟩
 first | (rw [← h]; done) | (rw [← h]; rfl) | (rw [← h]; simp)
def kWasHeard (a0 : Side) (n : Near) : Bool := decide (n.frame ≥ (IntKind.i64.wrap (a0.frame - 1)))
theorem kWasHeard_ok (a0 : Side) (n : Near) (r : Bool) (h : kWasHeard a0 n = r) : PCalls Tryz.prog 49 [.ptr (encSideS a0).cells, encNear n] (B r) := by
 unfold kWasHeard at h
 refine xe 13 Tryz.func49 ?_
 refine xsr ?_
 refine xa ?_
 refine xp ?_
 refine xq ?_
 refine vc_seq ?_
 refine xk [] [(0, .d (.ptr (encSideS a0).cells)), (3, .d (.ptr (encNear n).cells))] .nil (xh1 ⟨.z (.own' rfl (.cons .d (.cons .d (.cons .d (.cons .d (.cons .d (.cons .d (.cons .d (.cons .d (.cons .d (.cons .d (.cons .d (.cons .d (.cons .d (.cons .d (.cons .d (.cons .d (.cons .d (.cons .d (.cons .d (.cons .d (.cons .d (.cons .d (.cons .d (.cons .d (.cons .d (.cons .d (.cons .d (.cons .d (.cons .d (.cons .d (.cons .d .nil)))))))))))))))))))))))))))))))) .refl, trivial⟩) ?_
 refine xd ?_
 iterate 9 refine xp ?_
 refine xq ?_
 refine vc_ret ⟨.inr rfl, [B (decide (n.frame ≥ (IntKind.i64.wrap (a0.frame - 1))))], (.cons rfl ⟨_, .d, .refl⟩ .nil), ?_⟩
 first | (rw [← h]; done) | (rw [← h]; rfl) | (rw [← h]; simp)
def f99 (a0 : Use) (c0 : Cell) (c1 : Side) : Bool := (((a0.cell.slot == c0.slot) && ((a0.cell.offset == c0.offset) && true)) && (a0.peer == c1.me))
theorem f99_ok (a0 : Use) (c0 : Cell) (c1 : Side) (r : Bool) (h : f99 a0 c0 c1 = r) : PCalls Tryz.prog 99 [encUse a0, .ptr [I c0.slot, I c0.offset], .ptr [.ptr (encSideS c1).cells]] (B r) := by
 unfold f99 at h
 refine xe 18 Tryz.func99 ?_
 refine xsr ?_
 refine xa ?_
 refine xp ?_
 refine xq ?_
 refine vc_seq ?_
 refine xk [] [(1, .d (.ptr [I c0.slot, I c0.offset])), (2, .d (.ptr [.ptr (encSideS c1).cells])), (3, .d (.ptr (encUse a0).cells))] .nil (xh2 ⟨.z (.own' rfl (.cons .d (.cons .d (.cons .d (.cons .d .nil))))) .refl, trivial⟩) ?_
 refine vc_midQ [(4, .d (B (((a0.cell.slot == c0.slot) && ((a0.cell.offset == c0.offset) && true)) && (a0.peer == c1.me))))] [] ?_ ?_
 ·refine xd ?_
  iterate 5 refine xp ?_
  cases c1 : ((a0.cell.slot == c0.slot) && ((a0.cell.offset == c0.offset) && true)) with
  | true =>
   iterate 9 refine xp ?_
   refine xq ?_
   exact xm [] .nil (xh1 trivial)
  | false =>
   iterate 7 refine xs ?_
   iterate 2 refine xp ?_
   refine xq ?_
   exact xm [] .nil (xh1 trivial)
 ·refine vc_ret ⟨.inr rfl, [B (((a0.cell.slot == c0.slot) && ((a0.cell.offset == c0.offset) && true)) && (a0.peer == c1.me))], (.cons rfl ⟨_, .d, .refl⟩ .nil), ?_⟩
  first | (rw [← h]; done) | (rw [← h]; rfl) | (rw [← h]; simp)
def f134_L1 (a1 : Ask) : List Ask → Int → Sum (Unit) (Int)
 | [], i1 => .inl ()
 | x2 :: l, i1 => cond (((a1.cell.slot == x2.cell.slot) && ((a1.cell.offset == x2.cell.offset) && true)) && ((a1.peer == x2.peer) && true)) (.inr i1) (f134_L1 a1 l (i1 + 1))
def f134 (a0 : (List Ask)) (a1 : Ask) : Int := lt (f134_L1 a1 a0 0) fun v3 => Sum.elim (fun v4 => (-1)) (fun v5 => v5) v3
theorem f134_ok (a0 : (List Ask)) (a1 : Ask) (r : Int) (h : f134 a0 a1 = r) : PCalls Tryz.prog 134 [.list 3 (a0.map encAsk), encAsk a1] (I r) := by
 unfold f134 at h
 refine xe 19 Tryz.func134 ?_
 refine xsr ?_
 refine xa ?_
 refine xp ?_
 refine xq ?_
 refine vc_seq ?_
 refine vc_seq ?_
 refine xk [] [(0, .d (.list 3 (a0.map encAsk))), (3, .d (.ptr [I a1.cell.slot, I a1.cell.offset, I a1.peer]))] .nil (xh1 ⟨.z (.own' rfl (.cons .d (.cons .d (.cons .d .nil)))) .refl, trivial⟩) ?_
 refine xr ?_
 refine xp ?_
 refine xl ?_
 refine xp ?_
 refine xq ?_
 obtain ⟨v3, hv3, hLv3⟩ := bindT h
 refine vc_mid2 v3 (fun v4 => []) (fun v4 => []) ?_ ?_
 ·refine vc_block ?_
  refine vc_loop ?_
  refine xK [] [(0, .d (.list 3 (a0.map encAsk))), (3, .d (.ptr [I a1.cell.slot, I a1.cell.offset, I a1.peer])), (7, .d (I (a0.length : Int))), (8, .d (I 0))] .nil (xh3 (xh1 trivial)) ?_
  refine vcl_len 0 rfl (fun hlen => ?_)
  replace hlen := len_map hlen
  refine vcl_rec a0 (fun (pre l : List Ask) (s : Unit) => f134_L1 a1 l (pre.length : Int)) v3 (fun pre s => envOf [(0, .d (.list 3 (a0.map encAsk))), (3, .d (.ptr [I a1.cell.slot, I a1.cell.offset, I a1.peer])), (7, .d (I (a0.length : Int))), (8, .d (I (pre.length : Int)))]) (fun pre s => []) ?step1 ?done1 () hv3
  case step1 =>
   rintro pre x2 l _ hpre hlt h ih
   have hprex2 := hpre
   replace h : f134_L1 a1 (x2 :: l) (pre.length : Int) = v3 := h
   show VCL _ _ _ _ _ (envOf _) []
   obtain ⟨i1, hi⟩ : ∃ i : Int, i = (pre.length : Int) := ⟨_, rfl⟩
   have hix2 := hi
   rw [← hi] at h ⊢
   rw [f134_L1] at h
   refine vcl_unroll ?_
   refine xsr ?_
   refine xp ?_
   refine xq ?_
   refine vc_seq ?_
   refine vc_cond rfl (fun _ => ?_) (fun hf => absurd hf (by simp; omega))
   refine vc_skip ?_
   refine vc_seq ?_
   refine vc_block ?_
   refine xsr ?_
   iterate 2 refine xp ?_
   refine xq ?_
   refine xsd ?_
   iterate 3 refine xp ?_
   refine ri rfl rfl rfl rfl rfl rfl rfl (by omega) (by rw [hix2]; exact idxp hprex2) ?_
   iterate 2 refine xp ?_
   refine xq ?_
   cases c6 : (((a1.cell.slot == x2.cell.slot) && ((a1.cell.offset == x2.cell.offset) && true)) && ((a1.peer == x2.peer) && true)) with
   | true =>
    have h := cT c6 h
    refine vc_condT rfl ?_
    refine xsr ?_
    iterate 2 refine xp ?_
    refine xq ?_
    cases h
    have h := sumR hLv3
    refine vc_ret ⟨.inr rfl, [I i1], (.cons rfl ⟨_, .d, .refl⟩ .nil), ?_⟩
    first | (rw [← h]; done) | (rw [← h]; rfl) | (rw [← h]; simp)
   | false =>
    have h := cF c6 h
    refine vc_condF rfl ?_
    refine vc_skip ?_
    refine xr ?_
    iterate 2 refine xp ?_
    refine xq ?_
    exact xv [] (ih () (by show f134_L1 a1 _ (((pre ++ [x2]).length : Nat) : Int) = _; rw [cnt1, ← hi]; exact h)) .nil (xh3 ⟨.e rfl (cntI hi hlt hlen), trivial⟩)
  case done1 =>
   rintro _ h
   replace h : f134_L1 a1 [] (a0.length : Int) = v3 := h
   rw [f134_L1] at h
   show VCL _ _ _ _ _ (envOf _) []
   refine vcl_unroll ?_
   refine xsr ?_
   refine xp ?_
   refine xq ?_
   refine vc_seq ?_
   refine vc_cond rfl (fun ht => absurd ht (by simp; try omega)) (fun _ => ?_)
   refine vc_exit ?_
   cases h
   exact xm [] .nil trivial
 ·rintro v4 rfl
  have h := sumL hLv3
  refine xsr ?_
  refine xp ?_
  refine xq ?_
  refine vc_ret ⟨.inr rfl, [I (-1)], (.cons rfl ⟨_, .d, .refl⟩ .nil), ?_⟩
  first | (rw [← h]; done) | (rw [← h]; rfl) | (rw [← h]; simp)
def f100 (a0 : (List Ask)) (a1 : Ask) : Bool := decide ((f134 a0 a1) ≥ 0)
theorem f100_ok (a0 : (List Ask)) (a1 : Ask) (r : Bool) (h : f100 a0 a1 = r) : PCalls Tryz.prog 100 [.list 3 (a0.map encAsk), encAsk a1] (B r) := by
 unfold f100 at h
 refine xe 9 Tryz.func100 ?_
 refine xsr ?_
 refine xa ?_
 refine xp ?_
 refine xq ?_
 refine vc_seq ?_
 refine xk [] [(0, .d (.list 3 (a0.map encAsk))), (3, .d (.ptr [I a1.cell.slot, I a1.cell.offset, I a1.peer]))] .nil (xh1 ⟨.z (.own' rfl (.cons .d (.cons .d (.cons .d .nil)))) .refl, trivial⟩) ?_
 refine xr ?_
 iterate 2 refine xp ?_
 refine xc (f134_ok a0 a1 _ rfl) ?_
 iterate 2 refine xp ?_
 refine xq ?_
 refine vc_ret ⟨.inr rfl, [B (decide ((f134 a0 a1) ≥ 0))], (.cons rfl ⟨_, .d, .refl⟩ .nil), ?_⟩
 first | (rw [← h]; done) | (rw [← h]; rfl) | (rw [← h]; simp)
def kTells (a0 : Side) (n : Near) (a2 : Cell) : Option (Bool) := Option.bind (Option.bind (f98 n.t.uses (fun y0 => some (f99 y0 ⟨a2.slot, a2.offset⟩ a0))) fun v2 => cond v2 (some true) (some (f100 n.t.asks ⟨⟨a2.slot, a2.offset⟩, a0.me⟩))) fun v1 => some v1
theorem kTells_ok (a0 : Side) (n : Near) (a2 : Cell) (r : Bool) (h : kTells a0 n a2 = some r) : PCalls Tryz.prog 50 [.ptr (encSideS a0).cells, encNear n, encCell a2] (B r) := by
 unfold kTells at h
 refine xe 24 Tryz.func50 ?_
 refine xsr ?_
 refine xa ?_
 refine xa ?_
 refine xa ?_
 refine xp ?_
 refine xq ?_
 refine vc_seq ?_
 refine xk [] [(3, .d (.ptr [.ptr (encSideS a0).cells])), (4, .d (.ptr (encNear n).cells)), (5, .d (.ptr [I a2.slot, I a2.offset]))] .nil ⟨.z (.own' rfl (.cons .d .nil)) .refl, .z (.own' rfl (.cons .d (.cons .d (.cons .d (.cons .d (.cons .d (.cons .d (.cons .d (.cons .d (.cons .d (.cons .d (.cons .d (.cons .d (.cons .d (.cons .d (.cons .d (.cons .d (.cons .d (.cons .d (.cons .d (.cons .d (.cons .d (.cons .d (.cons .d (.cons .d (.cons .d (.cons .d (.cons .d (.cons .d (.cons .d (.cons .d (.cons .d .nil)))))))))))))))))))))))))))))))) .refl, .z (.own' rfl (.cons .d (.cons .d .nil))) .refl, trivial⟩ ?_
 obtain ⟨v1, hv1, h⟩ := bindO h
 refine vc_midQ [(6, .d (B v1))] [] ?_ ?_
 ·replace h := hv1; clear hv1
  refine xd ?_
  iterate 4 refine xp ?_
  obtain ⟨v2, hv2, h⟩ := bindO h
  refine xc (f98_ok n.t.uses (fun y0 => some (f99 y0 ⟨a2.slot, a2.offset⟩ a0)) (fun y0 r h => f99_ok y0 ⟨a2.slot, a2.offset⟩ a0 r (Option.some.inj h)) _ hv2) ?_
  refine xp ?_
  cases c3 : v2 with
  | true =>
   have h := cT c3 h
   iterate 10 refine xs ?_
   iterate 2 refine xp ?_
   cases h
   refine xq ?_
   exact xm [] .nil (xh1 trivial)
  | false =>
   have h := cF c3 h
   iterate 9 refine xp ?_
   refine xc (f100_ok n.t.asks ⟨⟨a2.slot, a2.offset⟩, a0.me⟩ _ rfl) ?_
   iterate 2 refine xp ?_
   cases h
   refine xq ?_
   exact xm [] .nil (xh1 trivial)
 ·replace h := Option.some.inj h
  refine vc_ret ⟨.inr rfl, [B v1], (.cons rfl ⟨_, .d, .refl⟩ .nil), ?_⟩
  first | (rw [← h]; done) | (rw [← h]; rfl) | (rw [← h]; simp)
def f102 (a0 : Use) (c0 : Cell) : Bool := ((a0.cell.slot == c0.slot) && ((a0.cell.offset == c0.offset) && true))
theorem f102_ok (a0 : Use) (c0 : Cell) (r : Bool) (h : f102 a0 c0 = r) : PCalls Tryz.prog 102 [encUse a0, .ptr [I c0.slot, I c0.offset]] (B r) := by
 unfold f102 at h
 refine xe 8 Tryz.func102 ?_
 refine xsr ?_
 refine xa ?_
 refine xp ?_
 refine xq ?_
 refine vc_seq ?_
 refine xk [] [(1, .d (.ptr [I c0.slot, I c0.offset])), (2, .d (.ptr (encUse a0).cells))] .nil (xh1 ⟨.z (.own' rfl (.cons .d (.cons .d (.cons .d (.cons .d .nil))))) .refl, trivial⟩) ?_
 refine xr ?_
 iterate 5 refine xp ?_
 refine xq ?_
 refine vc_ret ⟨.inr rfl, [B ((a0.cell.slot == c0.slot) && ((a0.cell.offset == c0.offset) && true))], (.cons rfl ⟨_, .d, .refl⟩ .nil), ?_⟩
 first | (rw [← h]; done) | (rw [← h]; rfl) | (rw [← h]; simp)
def f101 (n : Near) (c0 : Int) (c1 : Cell) : Option (Bool) := Option.bind (cond (n.src != c0) (Option.bind (f98 n.t.uses (fun y0 => some (f102 y0 ⟨c1.slot, c1.offset⟩))) fun v3 => some v3) (some false)) fun v1 => some v1
theorem f101_ok (n : Near) (c0 : Int) (c1 : Cell) (r : Bool) (h : f101 n c0 c1 = some r) : PCalls Tryz.prog 101 [encNear n, .ptr [I c0], .ptr [I c1.slot, I c1.offset]] (B r) := by
 unfold f101 at h
 refine xe 17 Tryz.func101 ?_
 refine xsr ?_
 refine xa ?_
 refine xp ?_
 refine xq ?_
 refine vc_seq ?_
 refine xk [] [(1, .d (.ptr [I c0])), (2, .d (.ptr [I c1.slot, I c1.offset])), (3, .d (.ptr (encNear n).cells))] .nil (xh2 ⟨.z (.own' rfl (.cons .d (.cons .d (.cons .d (.cons .d (.cons .d (.cons .d (.cons .d (.cons .d (.cons .d (.cons .d (.cons .d (.cons .d (.cons .d (.cons .d (.cons .d (.cons .d (.cons .d (.cons .d (.cons .d (.cons .d (.cons .d (.cons .d (.cons .d (.cons .d (.cons .d (.cons .d (.cons .d (.cons .d (.cons .d (.cons .d (.cons .d .nil)))))))))))))))))))))))))))))))) .refl, trivial⟩) ?_
 obtain ⟨v1, hv1, h⟩ := bindO h
 refine vc_midQ [(4, .d (B v1))] [] ?_ ?_
 ·replace h := hv1; clear hv1
  refine xr ?_
  iterate 6 refine xp ?_
  cases c2 : (n.src != c0) with
  | true =>
   have h := cT c2 h
   iterate 4 refine xp ?_
   obtain ⟨v3, hv3, h⟩ := bindO h
   refine xc (f98_ok n.t.uses (fun y0 => some (f102 y0 ⟨c1.slot, c1.offset⟩)) (fun y0 r h => f102_ok y0 ⟨c1.slot, c1.offset⟩ r (Option.some.inj h)) _ hv3) ?_
   iterate 2 refine xp ?_
   cases h
   refine xq ?_
   exact xm [] .nil (xh1 trivial)
  | false =>
   have h := cF c2 h
   iterate 5 refine xs ?_
   iterate 2 refine xp ?_
   cases h
   refine xq ?_
   exact xm [] .nil (xh1 trivial)
 ·replace h := Option.some.inj h
  refine vc_ret ⟨.inr rfl, [B v1], (.cons rfl ⟨_, .d, .refl⟩ .nil), ?_⟩
  first | (rw [← h]; done) | (rw [← h]; rfl) | (rw [← h]; simp)
def kBUsed (a0 : Side) (a1 : Cell) (but : Int) : Option (Bool) := Option.bind (f85 a0.near (fun y0 => f101 y0 but ⟨a1.slot, a1.offset⟩)) fun v1 => some v1
theorem kBUsed_ok (a0 : Side) (a1 : Cell) (but : Int) (r : Bool) (h : kBUsed a0 a1 but = some r) : PCalls Tryz.prog 51 [.ptr (encSideS a0).cells, encCell a1, I but] (B r) := by
 unfold kBUsed at h
 refine xe 13 Tryz.func51 ?_
 refine xsr ?_
 refine xa ?_
 refine xa ?_
 refine xp ?_
 refine xq ?_
 refine vc_seq ?_
 refine xk [] [(0, .d (.ptr (encSideS a0).cells)), (4, .d (.ptr [I a1.slot, I a1.offset])), (5, .d (.ptr [I but]))] .nil (xh1 ⟨.z (.own' rfl (.cons .d (.cons .d .nil))) .refl, ⟨.z (.own' rfl (.cons .d .nil)) .refl, trivial⟩⟩) ?_
 refine xr ?_
 iterate 5 refine xp ?_
 obtain ⟨v1, hv1, h⟩ := bindO h
 refine xc (f85_ok a0.near (fun y0 => f101 y0 but ⟨a1.slot, a1.offset⟩) (fun y0 r h => f101_ok y0 but ⟨a1.slot, a1.offset⟩ r h) _ hv1) ?_
 refine xp ?_
 refine xq ?_
 replace h := Option.some.inj h
 refine vc_ret ⟨.inr rfl, [B v1], (.cons rfl ⟨_, .d, .refl⟩ .nil), ?_⟩
 first | (rw [← h]; done) | (rw [← h]; rfl) | (rw [← h]; simp)
def f106 (a0 : Grant) (c0 : Side) : Bool := ((a0.peer == c0.me) && (decide (a0.til ≥ c0.frame)))
theorem f106_ok (a0 : Grant) (c0 : Side) (r : Bool) (h : f106 a0 c0 = r) : PCalls Tryz.prog 106 [encGrant a0, .ptr [.ptr (encSideS c0).cells]] (B r) := by
 unfold f106 at h
 refine xe 20 Tryz.func106 ?_
 refine xsr ?_
 refine xa ?_
 refine xp ?_
 refine xq ?_
 refine vc_seq ?_
 refine xk [] [(1, .d (.ptr [.ptr (encSideS c0).cells])), (2, .d (.ptr (encGrant a0).cells))] .nil (xh1 ⟨.z (.own' rfl (.cons .d (.cons .d (.cons .d (.cons .d (.cons .d .nil)))))) .refl, trivial⟩) ?_
 refine vc_midQ [(3, .d (B ((a0.peer == c0.me) && (decide (a0.til ≥ c0.frame)))))] [] ?_ ?_
 ·refine xd ?_
  iterate 8 refine xp ?_
  cases c1 : (a0.peer == c0.me) with
  | true =>
   iterate 9 refine xp ?_
   refine xq ?_
   exact xm [] .nil (xh1 trivial)
  | false =>
   iterate 7 refine xs ?_
   iterate 2 refine xp ?_
   refine xq ?_
   exact xm [] .nil (xh1 trivial)
 ·refine vc_ret ⟨.inr rfl, [B ((a0.peer == c0.me) && (decide (a0.til ≥ c0.frame)))], (.cons rfl ⟨_, .d, .refl⟩ .nil), ?_⟩
  first | (rw [← h]; done) | (rw [← h]; rfl) | (rw [← h]; simp)
def kBGranted (a0 : Side) (n : Near) : Option ((List Grant)) := Option.bind (f77 n.t.grants (fun y0 => some (f106 y0 a0))) fun v1 => some v1
theorem kBGranted_ok (a0 : Side) (n : Near) (r : (List Grant)) (h : kBGranted a0 n = some r) : PCalls Tryz.prog 53 [.ptr (encSideS a0).cells, encNear n] (.list 5 (r.map encGrant)) := by
 unfold kBGranted at h
 refine xe 10 Tryz.func53 ?_
 refine xsr ?_
 refine xa ?_
 refine xa ?_
 refine xp ?_
 refine xq ?_
 refine vc_seq ?_
 refine xk [] [(2, .d (.ptr [.ptr (encSideS a0).cells])), (3, .d (.ptr (encNear n).cells))] .nil ⟨.z (.own' rfl (.cons .d .nil)) .refl, .z (.own' rfl (.cons .d (.cons .d (.cons .d (.cons .d (.cons .d (.cons .d (.cons .d (.cons .d (.cons .d (.cons .d (.cons .d (.cons .d (.cons .d (.cons .d (.cons .d (.cons .d (.cons .d (.cons .d (.cons .d (.cons .d (.cons .d (.cons .d (.cons .d (.cons .d (.cons .d (.cons .d (.cons .d (.cons .d (.cons .d (.cons .d (.cons .d .nil)))))))))))))))))))))))))))))))) .refl, trivial⟩ ?_
 refine xr ?_
 iterate 4 refine xp ?_
 obtain ⟨v1, hv1, h⟩ := bindO h
 refine xc (f77_ok n.t.grants (fun y0 => some (f106 y0 a0)) (fun y0 r h => f106_ok y0 a0 r (Option.some.inj h)) _ hv1) ?_
 refine xp ?_
 refine xq ?_
 replace h := Option.some.inj h
 refine vc_ret ⟨.inr rfl, [.list 5 (v1.map encGrant)], (.cons rfl ⟨_, .d, .refl⟩ .nil), ?_⟩
 first | (rw [← h]; done) | (rw [← h]; rfl) | (rw [← h]; simp)
def f55 (a0 : Grant) (c0 : Use) : Bool := ((a0.cell.slot == c0.cell.slot) && ((a0.cell.offset == c0.cell.offset) && true))
theorem f55_ok (a0 : Grant) (c0 : Use) (r : Bool) (h : f55 a0 c0 = r) : PCalls Tryz.prog 55 [encGrant a0, .ptr (encUse c0).cells] (B r) := by
 unfold f55 at h
 refine xe 9 Tryz.func55 ?_
 refine xsr ?_
 refine xa ?_
 refine xp ?_
 refine xq ?_
 refine vc_seq ?_
 refine xk [] [(1, .d (.ptr (encUse c0).cells)), (2, .d (.ptr (encGrant a0).cells))] .nil (xh1 ⟨.z (.own' rfl (.cons .d (.cons .d (.cons .d (.cons .d (.cons .d .nil)))))) .refl, trivial⟩) ?_
 refine xr ?_
 iterate 6 refine xp ?_
 refine xq ?_
 refine vc_ret ⟨.inr rfl, [B ((a0.cell.slot == c0.cell.slot) && ((a0.cell.offset == c0.cell.offset) && true))], (.cons rfl ⟨_, .d, .refl⟩ .nil), ?_⟩
 first | (rw [← h]; done) | (rw [← h]; rfl) | (rw [← h]; simp)
def kNewSide_L1 (a0 : Layout) (me : Int) (near : (List Near)) (frame : Int) : List Near → Int → (List Near) → Option (Sum (List Near) ((Option Side) × Bool))
 | [], i7, p6 => some (.inl p6)
 | x8 :: l, i7, p6 => Option.bind (cond (kWithin x8.src (IntKind.i64.wrap (a0.nodes - 1))) (cond (x8.src == me) (some true) (cond (decide (i7 > 0)) (Option.bind (elt near (IntKind.i64.wrap (i7 - 1))) fun v16 => cond (decide (x8.src ≤ v16.src)) (some true) (some (!(kWithin x8.frame frame)))) (some (!(kWithin x8.frame frame))))) (some true)) fun v12 => cond v12 (some (.inr (none, false))) (Option.bind (kIsCell x8.t.uses (fun y0 => some (f75 y0 ⟨a0.nodes, a0.data⟩))) fun v19 => Option.bind (f77 x8.t.grants (fun y0 => some (f78 y0 ⟨a0.nodes, a0.data⟩))) fun v20 => cond (decide ((x8.t.asks.all fun a => (some (f80 a ⟨a0.nodes, a0.data⟩)).isSome) = true ∧ x8.t.asks.length ≤ 4000000)) (cond (decide (p6.length + 1 ≤ 4294967296)) (kNewSide_L1 a0 me near frame l (i7 + 1) (p6 ++ ([⟨x8.frame, x8.src, ⟨v19, v20, x8.t.asks.filter fun a => (some (f80 a ⟨a0.nodes, a0.data⟩)).getD false⟩, ⟨I 0, I 0, I 0, I 0, I 0, I 0, I 0, I 0, I 0, I 0, .lit (.slice none 0 0), B false, .lit (.slice none 0 0), .lit (.slice none 0 0), .lit (.slice none 0 0), I 0, I 0, .lit (.int .u64 0), I 0, I 0, I 0, I 0, I 0, .lit (.slice none 0 0), .lit (.slice none 0 0), B false⟩⟩] : List Near))) none) none)
def kNewSide (a0 : Layout) (t : Table) (me : Int) (near : (List Near)) (frame : Int) : Option ((Option Side) × Bool) := Option.bind (Option.bind (kCellsValid t a0) fun v2 => cond v2 (cond (kWithin me (IntKind.i64.wrap (a0.nodes - 1))) (some (!(kWithin frame 999999992))) (some true)) (some true)) fun v1 => cond v1 (some (none, false)) (Option.bind (kNewSide_L1 a0 me near frame near 0 []) fun v9 => Sum.elim (fun v10 => some ((some ⟨⟨a0.nodes, a0.data⟩, me, v10, frame⟩), true)) (fun v11 => some v11) v9)
theorem kNewSide_ok (a0 : Layout) (t : Table) (me : Int) (near : (List Near)) (frame : Int) (r : (Option Side) × Bool) (h : kNewSide a0 t me near frame = some r) : PCalls Tryz.prog 35 [encLayout a0, encTable t, I me, .list 31 (near.map encNear), I frame] (.tuple [encSideO r.1, B r.2]) := by
 unfold kNewSide at h
 refine xe 117 Tryz.func35 ?_
 refine xsr ?_
 refine xa ?_
 refine xa ?_
 iterate 2 refine xp ?_
 refine xq ?_
 refine vc_seq ?_
 refine vc_seq ?_
 refine xk [] [(2, .d (I me)), (3, .d (.list 31 (near.map encNear))), (4, .d (I frame)), (5, .d (.ptr [I a0.nodes, I a0.data])), (6, .d (.ptr [.list 4 (t.uses.map encUse), .list 5 (t.grants.map encGrant), .list 3 (t.asks.map encAsk)]))] .nil (xh3 ⟨.z (.own' rfl (.cons .d (.cons .d .nil))) .refl, ⟨.z (.own' rfl (.cons .d (.cons .d (.cons .d .nil)))) .refl, trivial⟩⟩) ?_
 obtain ⟨v1, hv1, h⟩ := bindO h
 refine vc_midQ [(2, .d (I me)), (3, .d (.list 31 (near.map encNear))), (4, .d (I frame)), (5, .d (.ptr [I a0.nodes, I a0.data])), (33, .d (B v1))] [] ?_ ?_
 ·replace h := hv1; clear hv1
  refine xr ?_
  iterate 2 refine xp ?_
  obtain ⟨v2, hv2, h⟩ := bindO h
  refine xc (kCellsValid_ok t a0 _ hv2) ?_
  iterate 2 refine xp ?_
  cases c3 : v2 with
  | true =>
   have h := cT c3 h
   iterate 4 refine xp ?_
   refine xc (kWithin_ok me (IntKind.i64.wrap (a0.nodes - 1)) _ rfl) ?_
   iterate 3 refine xp ?_
   cases c4 : (kWithin me (IntKind.i64.wrap (a0.nodes - 1))) with
   | true =>
    have h := cT c4 h
    refine xp ?_
    refine xc (kWithin_ok frame 999999992 _ rfl) ?_
    iterate 2 refine xp ?_
    cases h
    refine xq ?_
    exact xm [] .nil (xh5 trivial)
   | false =>
    have h := cF c4 h
    iterate 3 refine xs ?_
    refine xp ?_
    cases h
    refine xq ?_
    exact xm [] .nil (xh5 trivial)
  | false =>
   have h := cF c3 h
   iterate 6 refine xs ?_
   iterate 2 refine xp ?_
   iterate 3 refine xs ?_
   refine xp ?_
   cases h
   refine xq ?_
   exact xm [] .nil (xh5 trivial)
 ·cases c5 : v1 with
  | true =>
   have h := cT c5 h
   refine vc_condT rfl ?_
   refine xsr ?_
   iterate 2 refine xp ?_
   refine xq ?_
   replace h := Option.some.inj h
   refine vc_ret ⟨.inr rfl, [encSideO none, B false], (.cons rfl ⟨_, .d, .refl⟩ (.cons rfl ⟨_, .d, .refl⟩ .nil)), ?_⟩
   first | (rw [← h]; done) | (rw [← h]; rfl) | (rw [← h]; simp)
  | false =>
   have h := cF c5 h
   refine vc_condF rfl ?_
   refine vc_skip ?_
   refine xsr ?_
   iterate 4 refine xp ?_
   refine xa ?_
   refine xp ?_
   refine xq ?_
   refine vc_seq ?_
   refine xsr ?_
   refine xp ?_
   refine xl ?_
   refine xp ?_
   refine xq ?_
   refine VC.weak (weak_ownNilC 0 3 55 31 rfl rfl rfl rfl) ?_
   obtain ⟨v9, hv9, hLv9⟩ := bindO h
   refine vc_mid2 v9 (fun v10 => [(12, .own 0 0)]) (fun v10 => [.cells [.d (I a0.nodes), .d (I a0.data), .d (I me), .osl 1 v10.length, .d (I frame)], .arr 55 31 (v10.map encNear)]) ?_ ?_
   ·refine vc_block ?_
    refine vc_loop ?_
    refine xK [0, 1] [(2, .d (I me)), (3, .d (.list 31 (near.map encNear))), (4, .d (I frame)), (5, .d (.ptr [I a0.nodes, I a0.data])), (12, .own 0 0), (39, .d (.list 31 (near.map encNear))), (40, .d (I (near.length : Int))), (41, .d (I 0))] (σ' := [.cells [.d (I a0.nodes), .d (I a0.data), .d (I me), .osl 1 0, .d (I frame)], .arr 55 31 ([].map encNear)]) (.cons rfl (.cells (.cons (.h rfl rfl) (.cons (.h rfl rfl) (.cons (.h rfl rfl) (.cons (.h rfl rfl) (.cons (.h rfl rfl) .nil)))))) (.cons rfl (.arr (by first | rfl | (simp <;> rfl))) .nil)) (xh5 (xh3 trivial)) ?_
    refine vcl_len 3 rfl (fun hlen => ?_)
    replace hlen := len_map hlen
    refine vcl_rec near (fun (pre l : List Near) (s : List Near) => kNewSide_L1 a0 me near frame l (pre.length : Int) s) (some v9) (fun pre s => envOf [(2, .d (I me)), (3, .d (.list 31 (near.map encNear))), (4, .d (I frame)), (5, .d (.ptr [I a0.nodes, I a0.data])), (12, .own 0 0), (39, .d (.list 31 (near.map encNear))), (40, .d (I (near.length : Int))), (41, .d (I (pre.length : Int)))]) (fun pre s => [.cells [.d (I a0.nodes), .d (I a0.data), .d (I me), .osl 1 s.length, .d (I frame)], .arr 55 31 (s.map encNear)]) ?step1 ?done1 [] hv9
    case step1 =>
     rintro pre x8 l p6 hpre hlt h ih
     have hprex8 := hpre
     replace h : kNewSide_L1 a0 me near frame (x8 :: l) (pre.length : Int) p6 = some v9 := h
     show VCL _ _ _ _ _ (envOf _) (_ :: _)
     obtain ⟨i7, hi⟩ : ∃ i : Int, i = (pre.length : Int) := ⟨_, rfl⟩
     have hix8 := hi
     rw [← hi] at h ⊢
     rw [kNewSide_L1] at h
     refine vcl_unroll ?_
     refine xsr ?_
     refine xp ?_
     refine xq ?_
     refine vc_seq ?_
     refine vc_cond rfl (fun _ => ?_) (fun hf => absurd hf (by simp; omega))
     refine vc_skip ?_
     refine vc_seq ?_
     refine vc_block ?_
     refine xsr ?_
     refine xp ?_
     refine ri rfl rfl rfl rfl rfl rfl rfl (by omega) (by rw [hix8]; exact idxp hprex8) ?_
     refine xp ?_
     refine xa ?_
     refine xp ?_
     refine xw ?_
     refine xq ?_
     refine vc_seq ?_
     refine xk [0, 1] [(2, .d (I me)), (3, .d (.list 31 (near.map encNear))), (4, .d (I frame)), (5, .d (.ptr [I a0.nodes, I a0.data])), (12, .own 0 0), (13, .d (I i7)), (14, .d (.ptr (encNear x8).cells)), (39, .d (.list 31 (near.map encNear))), (40, .d (I (near.length : Int))), (41, .d (I i7))] (σ' := [.cells [.d (I a0.nodes), .d (I a0.data), .d (I me), .osl 1 p6.length, .d (I frame)], .arr 55 31 (p6.map encNear)]) (.cons rfl (.cells (.cons (.h rfl rfl) (.cons (.h rfl rfl) (.cons (.h rfl rfl) (.cons (.h rfl rfl) (.cons (.h rfl rfl) .nil)))))) (.cons rfl (.arr (by first | rfl | (simp <;> rfl))) .nil)) (xh5 (xh1 ⟨.z (.own' rfl (.cons .d (.cons .d (.cons .d (.cons .d (.cons .d (.cons .d (.cons .d (.cons .d (.cons .d (.cons .d (.cons .d (.cons .d (.cons .d (.cons .d (.cons .d (.cons .d (.cons .d (.cons .d (.cons .d (.cons .d (.cons .d (.cons .d (.cons .d (.cons .d (.cons .d (.cons .d (.cons .d (.cons .d (.cons .d (.cons .d (.cons .d .nil)))))))))))))))))))))))))))))))) .refl, (xh3 trivial)⟩)) ?_
     refine xr ?_
     iterate 4 refine xp ?_
     refine xq ?_
     refine vc_seq ?_
     refine vc_seq ?_
     obtain ⟨v12, hv12, h⟩ := bindO h
     refine vc_midQ [(2, .d (I me)), (3, .d (.list 31 (near.map encNear))), (4, .d (I frame)), (5, .d (.ptr [I a0.nodes, I a0.data])), (12, .own 0 0), (14, .d (.ptr (encNear x8).cells)), (15, .d (I x8.src)), (39, .d (.list 31 (near.map encNear))), (40, .d (I (near.length : Int))), (41, .d (I i7)), (81, .d (B v12))] [.cells [.d (I a0.nodes), .d (I a0.data), .d (I me), .osl 1 p6.length, .d (I frame)], .arr 55 31 (p6.map encNear)] ?_ ?_
     ·replace h := hv12; clear hv12
      refine xr ?_
      iterate 4 refine xp ?_
      refine xc (kWithin_ok x8.src (IntKind.i64.wrap (a0.nodes - 1)) _ rfl) ?_
      iterate 2 refine xp ?_
      cases c13 : (kWithin x8.src (IntKind.i64.wrap (a0.nodes - 1))) with
      | true =>
       have h := cT c13 h
       iterate 5 refine xp ?_
       cases c14 : (x8.src == me) with
       | true =>
        have h := cT c14 h
        iterate 13 refine xs ?_
        iterate 2 refine xp ?_
        iterate 5 refine xs ?_
        refine xp ?_
        cases h
        refine xq ?_
        exact xm [0, 1] ((.cons rfl (.cells (.cons (.h rfl rfl) (.cons (.h rfl rfl) (.cons (.h rfl rfl) (.cons (.h rfl rfl) (.cons (.h rfl rfl) .nil)))))) (.cons rfl (.arr (by first | rfl | (simp <;> rfl))) .nil))) (xh5 (xh5 (xh1 trivial)))
       | false =>
        have h := cF c14 h
        iterate 3 refine xp ?_
        cases c15 : decide (i7 > 0) with
        | true =>
         have h := cT c15 h
         iterate 4 refine xp ?_
         obtain ⟨v16, hv16, h⟩ := bindO h
         refine ri rfl rfl rfl rfl rfl rfl rfl (elt0 hv16) (eltm _ hv16) ?_
         iterate 7 refine xp ?_
         cases c17 : decide (x8.src ≤ v16.src) with
         | true =>
          have h := cT c17 h
          iterate 5 refine xs ?_
          refine xp ?_
          cases h
          refine xq ?_
          exact xm [0, 1] ((.cons rfl (.cells (.cons (.h rfl rfl) (.cons (.h rfl rfl) (.cons (.h rfl rfl) (.cons (.h rfl rfl) (.cons (.h rfl rfl) .nil)))))) (.cons rfl (.arr (by first | rfl | (simp <;> rfl))) .nil))) (xh5 (xh5 (xh1 trivial)))
         | false =>
          have h := cF c17 h
          iterate 3 refine xp ?_
          refine xc (kWithin_ok x8.frame frame _ rfl) ?_
          iterate 2 refine xp ?_
          cases h
          refine xq ?_
          exact xm [0, 1] ((.cons rfl (.cells (.cons (.h rfl rfl) (.cons (.h rfl rfl) (.cons (.h rfl rfl) (.cons (.h rfl rfl) (.cons (.h rfl rfl) .nil)))))) (.cons rfl (.arr (by first | rfl | (simp <;> rfl))) .nil))) (xh5 (xh5 (xh1 trivial)))
        | false =>
         have h := cF c15 h
         iterate 9 refine xs ?_
         iterate 6 refine xp ?_
         refine xc (kWithin_ok x8.frame frame _ rfl) ?_
         iterate 2 refine xp ?_
         cases h
         refine xq ?_
         exact xm [0, 1] ((.cons rfl (.cells (.cons (.h rfl rfl) (.cons (.h rfl rfl) (.cons (.h rfl rfl) (.cons (.h rfl rfl) (.cons (.h rfl rfl) .nil)))))) (.cons rfl (.arr (by first | rfl | (simp <;> rfl))) .nil))) (xh5 (xh5 (xh1 trivial)))
      | false =>
       have h := cF c13 h
       iterate 3 refine xs ?_
       iterate 2 refine xp ?_
       iterate 13 refine xs ?_
       iterate 2 refine xp ?_
       iterate 5 refine xs ?_
       refine xp ?_
       cases h
       refine xq ?_
       exact xm [0, 1] ((.cons rfl (.cells (.cons (.h rfl rfl) (.cons (.h rfl rfl) (.cons (.h rfl rfl) (.cons (.h rfl rfl) (.cons (.h rfl rfl) .nil)))))) (.cons rfl (.arr (by first | rfl | (simp <;> rfl))) .nil))) (xh5 (xh5 (xh1 trivial)))
     ·cases c18 : v12 with
      | true =>
       have h := cT c18 h
       refine vc_condT rfl ?_
       refine xsr ?_
       iterate 2 refine xp ?_
       refine xq ?_
       cases h
       have h := sumR hLv9
       replace h := Option.some.inj h
       refine vc_ret ⟨.inr rfl, [encSideO none, B false], (.cons rfl ⟨_, .d, .refl⟩ (.cons rfl ⟨_, .d, .refl⟩ .nil)), ?_⟩
       first | (rw [← h]; done) | (rw [← h]; rfl) | (rw [← h]; simp)
      | false =>
       have h := cF c18 h
       refine vc_condF rfl ?_
       refine vc_skip ?_
       refine xsr ?_
       iterate 2 refine xp ?_
       refine xa ?_
       refine xw ?_
       refine xq ?_
       refine xsr ?_
       iterate 4 refine xp ?_
       obtain ⟨v19, hv19, h⟩ := bindO h
       refine xc (kIsCell_ok x8.t.uses (fun y0 => some (f75 y0 ⟨a0.nodes, a0.data⟩)) (fun y0 r h => f75_ok y0 ⟨a0.nodes, a0.data⟩ r (Option.some.inj h)) _ hv19) ?_
       refine xp ?_
       refine xw ?_
       refine xq ?_
       refine xsr ?_
       iterate 4 refine xp ?_
       obtain ⟨v20, hv20, h⟩ := bindO h
       refine xc (f77_ok x8.t.grants (fun y0 => some (f78 y0 ⟨a0.nodes, a0.data⟩)) (fun y0 r h => f78_ok y0 ⟨a0.nodes, a0.data⟩ r (Option.some.inj h)) _ hv20) ?_
       refine xp ?_
       refine xw ?_
       refine xq ?_
       refine xsr ?_
       iterate 4 refine xp ?_
       obtain ⟨g21, h⟩ := gd h; replace g21 := dT g21
       refine rg [] rfl rfl rfl rfl rfl (by decide) rfl rfl (.cons (.look .d) (.cons (.look .d) .nil)) (onlyAsk_ok x8.t.asks (fun a => (some (f80 a ⟨a0.nodes, a0.data⟩)).getD false) (fun a ha => (fun y0 r h => f80_ok y0 ⟨a0.nodes, a0.data⟩ r (Option.some.inj h)) a _ (all_some (p := (fun a => (some (f80 a ⟨a0.nodes, a0.data⟩)))) g21.1 ha)) g21.2) (arrFlatAsk _) rfl rfl rfl ?_
       refine xp ?_
       refine xw ?_
       refine xq ?_
       refine xk [0, 1] [(2, .d (I me)), (3, .d (.list 31 (near.map encNear))), (4, .d (I frame)), (5, .d (.ptr [I a0.nodes, I a0.data])), (12, .own 0 0), (14, .d (.ptr (encNear x8).cells)), (16, .d (.ptr [I x8.src, I 0, I 0, I 0, I 0, I 0, I 0, I 0, I 0, I 0, I 0, .list 4 (v19.map encUse), .list 5 (v20.map encGrant), .list 3 ((x8.t.asks.filter fun a => (some (f80 a ⟨a0.nodes, a0.data⟩)).getD false).map encAsk), .lit (.slice none 0 0), B false, .lit (.slice none 0 0), .lit (.slice none 0 0), .lit (.slice none 0 0), I 0, I 0, .lit (.int .u64 0), I 0, I 0, I 0, I 0, I 0, .lit (.slice none 0 0), .lit (.slice none 0 0), B false])), (39, .d (.list 31 (near.map encNear))), (40, .d (I (near.length : Int))), (41, .d (I i7))] (σ' := [.cells [.d (I a0.nodes), .d (I a0.data), .d (I me), .osl 1 p6.length, .d (I frame)], .arr 55 31 (p6.map encNear)]) (.cons rfl (.cells (.cons (.h rfl rfl) (.cons (.h rfl rfl) (.cons (.h rfl rfl) (.cons (.h rfl rfl) (.cons (.h rfl rfl) .nil)))))) (.cons rfl (.arr (by first | rfl | (simp <;> rfl))) .nil)) (xh5 (xh1 ⟨.z (.own' rfl (.cons .d (.cons .d (.cons .d (.cons .d (.cons .d (.cons .d (.cons .d (.cons .d (.cons .d (.cons .d (.cons .d (.cons .d (.cons .d (.cons (.osl rfl (by simp)) (.cons .d (.cons .d (.cons .d (.cons .d (.cons .d (.cons .d (.cons .d (.cons .d (.cons .d (.cons .d (.cons .d (.cons .d (.cons .d (.cons .d (.cons .d (.cons .d .nil))))))))))))))))))))))))))))))) .refl, (xh3 trivial)⟩)) ?_
       refine xd ?_
       iterate 4 refine xp ?_
       refine xR ?_
       iterate 4 refine xp ?_
       refine xb ?_
       obtain ⟨g22, h⟩ := gd h; replace g22 := dT g22
       refine rap rfl rfl rfl rfl rfl rfl rfl rfl .list rfl rfl rfl rfl (by simp) (by simp; omega) (by simp; omega) ?_
       iterate 2 refine xp ?_
       refine xw ?_
       refine xq ?_
       refine xr ?_
       iterate 2 refine xp ?_
       refine xq ?_
       exact xv [0, 1] (ih (p6 ++ ([⟨x8.frame, x8.src, ⟨v19, v20, x8.t.asks.filter fun a => (some (f80 a ⟨a0.nodes, a0.data⟩)).getD false⟩, ⟨I 0, I 0, I 0, I 0, I 0, I 0, I 0, I 0, I 0, I 0, .lit (.slice none 0 0), B false, .lit (.slice none 0 0), .lit (.slice none 0 0), .lit (.slice none 0 0), I 0, I 0, .lit (.int .u64 0), I 0, I 0, I 0, I 0, I 0, .lit (.slice none 0 0), .lit (.slice none 0 0), B false⟩⟩] : List Near)) (by show kNewSide_L1 a0 me near frame _ (((pre ++ [x8]).length : Nat) : Int) (p6 ++ ([⟨x8.frame, x8.src, ⟨v19, v20, x8.t.asks.filter fun a => (some (f80 a ⟨a0.nodes, a0.data⟩)).getD false⟩, ⟨I 0, I 0, I 0, I 0, I 0, I 0, I 0, I 0, I 0, I 0, .lit (.slice none 0 0), B false, .lit (.slice none 0 0), .lit (.slice none 0 0), .lit (.slice none 0 0), I 0, I 0, .lit (.int .u64 0), I 0, I 0, I 0, I 0, I 0, .lit (.slice none 0 0), .lit (.slice none 0 0), B false⟩⟩] : List Near)) = _; rw [cnt1, ← hi]; exact h)) (.cons rfl (.cells (.cons (.h rfl rfl) (.cons (.h rfl rfl) (.cons (.h rfl rfl) (.cons (.h (oslE rfl (by first | rfl | (simp <;> rfl) | (simp only [List.length_take]; omega))) rfl) (.cons (.h rfl rfl) .nil)))))) (.cons rfl (.arr (by first | rfl | (simp <;> rfl))) .nil)) (xh5 (xh2 ⟨.e rfl (cntI hi hlt hlen), trivial⟩))
    case done1 =>
     rintro p6 h
     replace h : kNewSide_L1 a0 me near frame [] (near.length : Int) p6 = some v9 := h
     rw [kNewSide_L1] at h
     show VCL _ _ _ _ _ (envOf _) (_ :: _)
     refine vcl_unroll ?_
     refine xsr ?_
     refine xp ?_
     refine xq ?_
     refine vc_seq ?_
     refine vc_cond rfl (fun ht => absurd ht (by simp; try omega)) (fun _ => ?_)
     refine vc_exit ?_
     cases h
     exact xm [0, 1] (.cons rfl (.cells (.cons (.h rfl rfl) (.cons (.h rfl rfl) (.cons (.h rfl rfl) (.cons (.h rfl rfl) (.cons (.h rfl rfl) .nil)))))) (.cons rfl (.arr (by first | rfl | (simp <;> rfl))) .nil)) (xh1 trivial)
   ·rintro v10 rfl
    have h := sumL hLv9
    refine vc_seq ?_
    refine xk [0] [(12, .own 0 0)] (σ' := [.cells [.d (I a0.nodes), .d (I a0.data), .d (I me), .d (.list 31 (v10.map encNear)), .d (I frame)]]) (.cons rfl (.cells (.cons (.h rfl rfl) (.cons (.h rfl rfl) (.cons (.h rfl rfl) (.cons (.z (.osl rfl (by simp)) .refl) (.cons (.h rfl rfl) .nil)))))) .nil) (xh1 trivial) ?_
    refine xr ?_
    iterate 3 refine xp ?_
    refine xq ?_
    replace h := Option.some.inj h
    refine vc_ret ⟨.inr rfl, [encSideO (some ⟨⟨a0.nodes, a0.data⟩, me, v10, frame⟩), B true], (.cons rfl ⟨_, (.own' rfl (.cons .d (.cons .d (.cons .d (.cons .d (.cons .d .nil)))))), .refl⟩ (.cons rfl ⟨_, .d, .refl⟩ .nil)), ?_⟩
    first | (rw [← h]; done) | (rw [← h]; rfl) | (rw [← h]; simp)
def cellsRefusedU (t : Table) (a1 : Layout) (a2 : Use) : Option (Int) := Option.bind (Option.bind (kCellsValid t a1) fun v2 => cond v2 (some (!(f171 a2 a1))) (some true)) fun v1 => cond v1 (some 1) (lt (f170 a2) fun v5 => Option.bind (kCBusy t v5.slot) fun v6 => cond v6 (some 5) (cond (decide ((IntKind.i64.wrap ((t.uses.length : Int) + (t.grants.length : Int))) ≥ 24)) (some 10) (some 0)))
theorem cellsRefusedU_ok (t : Table) (a1 : Layout) (a2 : Use) (r : Int) (h : cellsRefusedU t a1 a2 = some r) : PCalls Tryz.prog 103 [encTable t, encLayout a1, .iface 149 (encUse a2)] (I r) := by
 unfold cellsRefusedU at h
 refine xe 33 Tryz.func103 ?_
 refine xsr ?_
 refine xa ?_
 refine xa ?_
 refine xp ?_
 refine xq ?_
 refine vc_seq ?_
 refine vc_block ?_
 refine vc_seq ?_
 refine xk [] [(2, .d (.iface 149 (encUse a2))), (3, .d (.ptr [.list 4 (t.uses.map encUse), .list 5 (t.grants.map encGrant), .list 3 (t.asks.map encAsk)])), (4, .d (.ptr [I a1.nodes, I a1.data]))] .nil (xh1 ⟨.z (.own' rfl (.cons .d (.cons .d (.cons .d .nil)))) .refl, ⟨.z (.own' rfl (.cons .d (.cons .d .nil))) .refl, trivial⟩⟩) ?_
 obtain ⟨v1, hv1, h⟩ := bindO h
 refine vc_midQ [(2, .d (.iface 149 (encUse a2))), (3, .d (.ptr [.list 4 (t.uses.map encUse), .list 5 (t.grants.map encGrant), .list 3 (t.asks.map encAsk)])), (7, .d (B v1))] [] ?_ ?_
 ·replace h := hv1; clear hv1
  refine xr ?_
  iterate 2 refine xp ?_
  obtain ⟨v2, hv2, h⟩ := bindO h
  refine xc (kCellsValid_ok t a1 _ hv2) ?_
  iterate 2 refine xp ?_
  cases c3 : v2 with
  | true =>
   have h := cT c3 h
   iterate 2 refine xp ?_
   refine rinv rfl rfl rfl rfl rfl rfl rfl rfl (List.mem_cons_of_mem _ (List.mem_cons_self ..)) (f171_ok a2 a1 _ rfl) ?_
   iterate 3 refine xp ?_
   cases h
   refine xq ?_
   exact xm [] .nil (xh3 trivial)
  | false =>
   have h := cF c3 h
   iterate 4 refine xs ?_
   iterate 2 refine xp ?_
   cases h
   refine xq ?_
   exact xm [] .nil (xh3 trivial)
 ·cases c4 : v1 with
  | true =>
   have h := cT c4 h
   refine vc_condT rfl ?_
   refine xsr ?_
   refine xp ?_
   refine xq ?_
   replace h := Option.some.inj h
   refine vc_ret ⟨.inr rfl, [I 1], (.cons rfl ⟨_, .d, .refl⟩ .nil), ?_⟩
   first | (rw [← h]; done) | (rw [← h]; rfl) | (rw [← h]; simp)
  | false =>
   have h := cF c4 h
   refine vc_condF rfl ?_
   refine xsd ?_
   iterate 2 refine xp ?_
   obtain ⟨v5, hv5, h⟩ := bindT h
   refine rinv rfl rfl rfl rfl rfl rfl rfl rfl (List.mem_cons_self ..) (f170_ok a2 _ hv5) ?_
   refine xp ?_
   obtain ⟨v6, hv6, h⟩ := bindO h
   refine xc (kCBusy_ok t v5.slot _ hv6) ?_
   refine xp ?_
   refine xq ?_
   cases c7 : v6 with
   | true =>
    have h := cT c7 h
    refine vc_condT rfl ?_
    refine xsr ?_
    refine xp ?_
    refine xq ?_
    replace h := Option.some.inj h
    refine vc_ret ⟨.inr rfl, [I 5], (.cons rfl ⟨_, .d, .refl⟩ .nil), ?_⟩
    first | (rw [← h]; done) | (rw [← h]; rfl) | (rw [← h]; simp)
   | false =>
    have h := cF c7 h
    refine vc_condF rfl ?_
    refine xsr ?_
    iterate 2 refine xp ?_
    refine xl ?_
    iterate 2 refine xp ?_
    refine xl ?_
    iterate 3 refine xp ?_
    refine xq ?_
    cases c8 : decide ((IntKind.i64.wrap ((t.uses.length : Int) + (t.grants.length : Int))) ≥ 24) with
    | true =>
     have h := cT c8 h
     refine vc_condT rfl ?_
     refine xsr ?_
     refine xp ?_
     refine xq ?_
     replace h := Option.some.inj h
     refine vc_ret ⟨.inr rfl, [I 10], (.cons rfl ⟨_, .d, .refl⟩ .nil), ?_⟩
     first | (rw [← h]; done) | (rw [← h]; rfl) | (rw [← h]; simp)
    | false =>
     have h := cF c8 h
     refine vc_condF rfl ?_
     refine vc_skip ?_
     refine xsr ?_
     refine xp ?_
     refine xq ?_
     replace h := Option.some.inj h
     refine vc_ret ⟨.inr rfl, [I 0], (.cons rfl ⟨_, .d, .refl⟩ .nil), ?_⟩
     first | (rw [← h]; done) | (rw [← h]; rfl) | (rw [← h]; simp)
def cellsRefusedG (t : Table) (a1 : Layout) (a2 : Grant) : Option (Int) := Option.bind (Option.bind (kCellsValid t a1) fun v2 => cond v2 (some (!(f168 a2 a1))) (some true)) fun v1 => cond v1 (some 1) (lt (f167 a2) fun v5 => Option.bind (kCBusy t v5.slot) fun v6 => cond v6 (some 5) (cond (decide ((IntKind.i64.wrap ((t.uses.length : Int) + (t.grants.length : Int))) ≥ 24)) (some 10) (some 0)))
theorem cellsRefusedG_ok (t : Table) (a1 : Layout) (a2 : Grant) (r : Int) (h : cellsRefusedG t a1 a2 = some r) : PCalls Tryz.prog 103 [encTable t, encLayout a1, .iface 140 (encGrant a2)] (I r) := by
 unfold cellsRefusedG at h
 refine xe 33 Tryz.func103 ?_
 refine xsr ?_
 refine xa ?_
 refine xa ?_
 refine xp ?_
 refine xq ?_
 refine vc_seq ?_
 refine vc_block ?_
 refine vc_seq ?_
 refine xk [] [(2, .d (.iface 140 (encGrant a2))), (3, .d (.ptr [.list 4 (t.uses.map encUse), .list 5 (t.grants.map encGrant), .list 3 (t.asks.map encAsk)])), (4, .d (.ptr [I a1.nodes, I a1.data]))] .nil (xh1 ⟨.z (.own' rfl (.cons .d (.cons .d (.cons .d .nil)))) .refl, ⟨.z (.own' rfl (.cons .d (.cons .d .nil))) .refl, trivial⟩⟩) ?_
 obtain ⟨v1, hv1, h⟩ := bindO h
 refine vc_midQ [(2, .d (.iface 140 (encGrant a2))), (3, .d (.ptr [.list 4 (t.uses.map encUse), .list 5 (t.grants.map encGrant), .list 3 (t.asks.map encAsk)])), (7, .d (B v1))] [] ?_ ?_
 ·replace h := hv1; clear hv1
  refine xr ?_
  iterate 2 refine xp ?_
  obtain ⟨v2, hv2, h⟩ := bindO h
  refine xc (kCellsValid_ok t a1 _ hv2) ?_
  iterate 2 refine xp ?_
  cases c3 : v2 with
  | true =>
   have h := cT c3 h
   iterate 2 refine xp ?_
   refine rinv rfl rfl rfl rfl rfl rfl rfl rfl (List.mem_cons_of_mem _ (List.mem_cons_self ..)) (f168_ok a2 a1 _ rfl) ?_
   iterate 3 refine xp ?_
   cases h
   refine xq ?_
   exact xm [] .nil (xh3 trivial)
  | false =>
   have h := cF c3 h
   iterate 4 refine xs ?_
   iterate 2 refine xp ?_
   cases h
   refine xq ?_
   exact xm [] .nil (xh3 trivial)
 ·cases c4 : v1 with
  | true =>
   have h := cT c4 h
   refine vc_condT rfl ?_
   refine xsr ?_
   refine xp ?_
   refine xq ?_
   replace h := Option.some.inj h
   refine vc_ret ⟨.inr rfl, [I 1], (.cons rfl ⟨_, .d, .refl⟩ .nil), ?_⟩
   first | (rw [← h]; done) | (rw [← h]; rfl) | (rw [← h]; simp)
  | false =>
   have h := cF c4 h
   refine vc_condF rfl ?_
   refine xsd ?_
   iterate 2 refine xp ?_
   obtain ⟨v5, hv5, h⟩ := bindT h
   refine rinv rfl rfl rfl rfl rfl rfl rfl rfl (List.mem_cons_self ..) (f167_ok a2 _ hv5) ?_
   refine xp ?_
   obtain ⟨v6, hv6, h⟩ := bindO h
   refine xc (kCBusy_ok t v5.slot _ hv6) ?_
   refine xp ?_
   refine xq ?_
   cases c7 : v6 with
   | true =>
    have h := cT c7 h
    refine vc_condT rfl ?_
    refine xsr ?_
    refine xp ?_
    refine xq ?_
    replace h := Option.some.inj h
    refine vc_ret ⟨.inr rfl, [I 5], (.cons rfl ⟨_, .d, .refl⟩ .nil), ?_⟩
    first | (rw [← h]; done) | (rw [← h]; rfl) | (rw [← h]; simp)
   | false =>
    have h := cF c7 h
    refine vc_condF rfl ?_
    refine xsr ?_
    iterate 2 refine xp ?_
    refine xl ?_
    iterate 2 refine xp ?_
    refine xl ?_
    iterate 3 refine xp ?_
    refine xq ?_
    cases c8 : decide ((IntKind.i64.wrap ((t.uses.length : Int) + (t.grants.length : Int))) ≥ 24) with
    | true =>
     have h := cT c8 h
     refine vc_condT rfl ?_
     refine xsr ?_
     refine xp ?_
     refine xq ?_
     replace h := Option.some.inj h
     refine vc_ret ⟨.inr rfl, [I 10], (.cons rfl ⟨_, .d, .refl⟩ .nil), ?_⟩
     first | (rw [← h]; done) | (rw [← h]; rfl) | (rw [← h]; simp)
    | false =>
     have h := cF c8 h
     refine vc_condF rfl ?_
     refine vc_skip ?_
     refine xsr ?_
     refine xp ?_
     refine xq ?_
     replace h := Option.some.inj h
     refine vc_ret ⟨.inr rfl, [I 0], (.cons rfl ⟨_, .d, .refl⟩ .nil), ?_⟩
     first | (rw [← h]; done) | (rw [← h]; rfl) | (rw [← h]; simp)
end Go.VM.Tryz
namespace Go.VM
open Go.Sort Go.Proofs
theorem sort_unique {α : Type} [Inhabited α] {lt : α → α → Bool} (l l' : List α) (hp : l'.Perm l) (hs : l'.Pairwise fun x y => lt y x = false) (ht : ∀ a ∈ l, ∀ b ∈ l, lt a b = false → lt b a = false → a = b) (d' : Array α)
  (hP : PermIn 0 l.toArray.size l.toArray d') (hSo : SortedIn lt 0 l.toArray.size d') : d'.toList = l' := by
 obtain ⟨hsz, _, hperm⟩ := hP
 have e1 : d'.extract 0 l.toArray.size = d' := by rw [← hsz]; exact Array.extract_size
 rw [e1, Array.extract_size] at hperm
 refine List.Perm.eq_of_pairwise (le := fun x y => lt y x = false) ?_ ?_ hs (hperm.trans hp.symm)
 ·intro a b h1 h2 h3 h4
  exact ht a (hperm.mem_iff.1 h1) b (hp.mem_iff.1 h2) h4 h3
 ·rw [List.pairwise_iff_getElem]
  intro i j hi hj hij
  have hi' : i < d'.size := by simpa using hi
  have hj' : j < d'.size := by simpa using hj
  have := hSo i j (Nat.zero_le _) hij (by omega)
  rw [getElem!_pos d' j hj', getElem!_pos d' i hi'] at this
  simpa using this
def insS {α : Type} (lt : α → α → Bool) (x : α) : List α → List α
 | [] => [x]
 | y :: l => cond (lt y x) (y :: insS lt x l) (x :: y :: l)
def sortS {α : Type} (lt : α → α → Bool) (l : List α) : List α := l.foldr (insS lt) []
theorem insS_perm {α : Type} (lt : α → α → Bool) (x : α) : ∀ l : List α, (insS lt x l).Perm (x :: l)
 | [] => .refl _
 | y :: l => by
  unfold insS
  cases lt y x with
  | true => exact ((insS_perm lt x l).cons y).trans (.swap _ _ _)
  | false => exact .refl _
theorem sortS_perm {α : Type} (lt : α → α → Bool) : ∀ l : List α, (sortS lt l).Perm l
 | [] => .refl _
 | x :: l => (insS_perm lt x _).trans ((sortS_perm lt l).cons x)
theorem insS_sorted {α : Type} {lt : α → α → Bool} (hS : SWO lt) (x : α) : ∀ {l : List α}, (l.Pairwise fun x y => lt y x = false) → (insS lt x l).Pairwise fun x y => lt y x = false
 | [], _ => by simp [insS]
 | y :: l, h => by
  unfold insS
  rw [List.pairwise_cons] at h
  cases hl : lt y x with
  | true =>
   simp only [cond_true, List.pairwise_cons]
   refine ⟨fun z hz => ?_, insS_sorted hS x h.2⟩
   rcases List.mem_cons.1 ((insS_perm lt x l).mem_iff.1 hz) with rfl | hz
   ·cases h3 : lt z y with
    | false => rfl
    | true => have h4 := hS.trans _ _ _ h3 hl; rw [hS.irrefl] at h4; cases h4
   ·exact h.1 z hz
  | false =>
   simp only [cond_false, List.pairwise_cons]
   refine ⟨fun z hz => ?_, h.1, h.2⟩
   rcases List.mem_cons.1 hz with rfl | hz
   ·exact hl
   ·exact hS.ntrans z y x (h.1 z hz) hl
theorem sortS_sorted {α : Type} {lt : α → α → Bool} (hS : SWO lt) : ∀ l : List α, (sortS lt l).Pairwise fun x y => lt y x = false
 | [] => .nil
 | x :: l => insS_sorted hS x (sortS_sorted hS l)
variable {α : Type} [Inhabited α]
def encK (enc : α → List Value) (a : α) : D := .agg ((enc a).map .lit)
theorem relAt_lits {M : Mem} {rd : Nat → Value → Prop} {vs : List Value} {o : Nat} : RelAt M rd o (vs.map .lit) ↔ ∀ (i : Nat) (v : Value), vs[i]? = some v → v.oneCell' = true ∧ rd (o + i) v := by
 rw [relAt_iff]
 constructor
 ·intro h i v hv
  obtain ⟨h1, x, h2, h3⟩ := h i (.lit v) (by simp [hv])
  simp only [Rel] at h3; subst h3
  exact ⟨h1, h2⟩
 ·intro h i d hd
  simp only [List.getElem?_map, Option.map_eq_some_iff] at hd
  obtain ⟨v, hv, rfl⟩ := hd
  exact ⟨(h i v hv).1, v, (h i v hv).2, rfl⟩
theorem row_flat {M : Mem} {enc : α → List Value} {k : Nat} (hk : ∀ x, (enc x).length = k) {l : List α} {xs : List Value} (hl : xs.length = l.length * k) (h : RelRow M (fun o v => xs[o]? = some v) k 0 (l.map (encK enc))) : xs.toArray = flatK enc k l.toArray := by
 rw [relRow_iff] at h
 refine ext_get! (by simp [hl]) fun t ht => ?_
 have ht' : t < l.length * k := by simpa [hl] using ht
 have k0 : 0 < k := by
  rcases Nat.eq_zero_or_pos k with h | h
  ·subst h; simp at ht'
  ·exact h
 have hi : t / k < l.length := (Nat.div_lt_iff_lt_mul k0).2 ht'
 rw [get_flatK _ _ _ _ (by simpa using ht')]
 have h1 := (h (t / k) (encK enc l[t / k]) (by simp [hi])).2
 unfold encK D.cells at h1
 rw [relAt_lits] at h1
 have h2 := (h1 (t % k) ((enc l[t / k])[t % k]'(by rw [hk]; exact Nat.mod_lt _ k0)) (by simp)).2
 simp only [Nat.zero_add, Nat.div_add_mod'] at h2
 have h3 : l.toArray[t / k]! = l[t / k] := by simp [hi]
 rw [h3, getElem!_pos (enc l[t / k]) (t % k) (by rw [hk]; exact Nat.mod_lt _ k0)]
 simp [Array.getElem!_eq_getD, Array.getD_eq_getD_getElem?, h2]
theorem flat_row {M : Mem} {enc : α → List Value} {k : Nat} (hk : ∀ x, (enc x).length = k) (h1 : ∀ x, ∀ v ∈ enc x, v.oneCell' = true) {l : List α} {xs : List Value} (h : xs.toArray = flatK enc k l.toArray) : RelRow M (fun o v => xs[o]? = some v) k 0 (l.map (encK enc)) := by
 rw [relRow_iff]
 intro i d hd
 simp only [List.getElem?_map, Option.map_eq_some_iff] at hd
 obtain ⟨a, ha, rfl⟩ := hd
 have hil := (List.getElem?_eq_some_iff.1 ha).1
 refine ⟨by simp [encK, D.cells, hk], ?_⟩
 show RelAt _ _ _ ((enc a).map .lit)
 rw [relAt_lits]
 intro j v hv
 have hj : j < k := by rw [← hk a]; exact (List.getElem?_eq_some_iff.1 hv).1
 refine ⟨h1 a v (List.mem_of_getElem? hv), ?_⟩
 have lt : i * k + j < l.toArray.size * k := by
  have := Nat.mul_le_mul_right k (show i + 1 ≤ l.length from hil); rw [Nat.add_mul, Nat.one_mul] at this; simp; omega
 have e1 : (i * k + j) / k = i := (blk_iff k i _ (by omega)).1 ⟨by omega, by omega⟩
 have e2 : (i * k + j) % k = j := by rw [Nat.mod_eq_sub_div_mul, e1]; omega
 have h2 := get_flatK enc k l.toArray (i * k + j) lt
 rw [← h, e1, e2] at h2
 have hs : xs.length = l.length * k := by have := congrArg Array.size h; simpa using this
 have hlt : i * k + j < xs.length := by rw [hs]; simpa using lt
 rw [Nat.zero_add, List.getElem?_eq_getElem hlt]
 have h3 : xs.toArray[i * k + j]! = xs[i * k + j] := by simp [hlt]
 rw [h3] at h2
 rw [h2]
 have h4 : l.toArray[i]! = a := by simp [ha]
 rw [h4]
 obtain ⟨h5, h6⟩ := List.getElem?_eq_some_iff.1 hv
 rw [getElem!_pos (enc a) j h5, h6]
theorem gcalls_sort {P : Program} {f g : FuncId} (hen : Enterable P f) (e : TypeId) (k : Nat) (enc : α → List Value) (hk : ∀ x, (enc x).length = k) (h1 : ∀ x, ∀ v ∈ enc x, v.oneCell' = true) (lt : α → α → Bool) (hS : SWO lt)
  (h0 : ∀ (p : Option Addr) (cap : Nat) (fv : Value) (w : World), Calls P f #[.slice p 0 cap, fv] w fun e w' => e = .returned (.tuple #[]) ∧ w' = w)
  (hs : ∀ (blk off cap : Nat) (d : Array α) (w : World), HoldsK enc k w blk off d → blk < w.heap.size → d.size < 4611686018427387904 →
   Calls P f #[.slice (some ⟨blk, off, none⟩) d.size cap, .func (.func g) #[] #[]] w fun e w' => e = .returned (.tuple #[]) ∧ ∃ d' n os, PermIn 0 d.size d d' ∧ SortedIn lt 0 d.size d' ∧ w' = sortWorldK enc k w blk off n d' os)
  (l l' : List α) (hp' : l'.Perm l) (hs' : l'.Pairwise fun x y => lt y x = false) (ht : ∀ a ∈ l, ∀ b ∈ l, lt a b = false → lt b a = false → a = b) :
  GCalls P f [.osl 0 l.length, .d (.fn (.func g) [] [])] [.arr e k (l.map (encK enc))] (.d (.tuple [])) [.arr e k (l'.map (encK enc))] := by
 refine ⟨hen, fun A η w vals hsg hv => ?_⟩
 simp only [RelVL, RelV] at hv
 obtain ⟨v0, r0, rfl, ⟨_, _, hv0⟩, v1, r1, rfl, hv1, rfl⟩ := hv
 have hv0 := (hv0 e k _ rfl).2 (by simp)
 subst hv0
 simp only [Rel, RelL] at hv1
 obtain ⟨fs, cs, rfl, rfl, rfl⟩ := hv1
 have ho := hsg.objs 0 _ rfl
 simp only [ObjRel] at ho
 obtain ⟨hlen, xs, ⟨hxl, hrow⟩, hone, hrel⟩ := ho
 have hlen' : (l.map (encK enc)).length = l.length := by simp
 rw [hlen'] at hlen hxl hrow
 have hnil : l = [] → l' = [] := fun h => by subst h; exact hp'.eq_nil
 have hcase0 : l = [] → ∀ p cap, η 0 = .slice p 0 cap → Calls P f [η 0, .func (.func g) [].toArray [].toArray].toArray w fun e' w' => ∃ v η', e' = .returned v ∧ SigRel A [.arr e k (l'.map (encK enc))] η' w' ∧ RelV (mem A η' [.arr e k (l'.map (encK enc))] w') [.arr e k (l'.map (encK enc))] η' (.d (.tuple [])) v ∧ Trans 1 [.arr e k (l.map (encK enc))] η w [.arr e k (l'.map (encK enc))] η' w' := by
  rintro rfl p cap hp
  obtain rfl := hnil rfl
  rw [hp]
  refine (h0 p cap _ w).mono fun e' w' ⟨he, hw⟩ => ?_
  subst hw
  exact ⟨_, η, he, hsg, by simp [RelV, Rel, RelL], .refl _ _ _ _⟩
 rcases hrow with ⟨he, hn⟩ | ⟨gb, cap, cur, he, _, hg, hcap, _, hcs, htake⟩
 ·have : l = [] := List.eq_nil_of_length_eq_zero hn
  exact hcase0 this none 0 he
 ·by_cases hl0 : l = []
  ·subst hl0; exact hcase0 rfl _ _ he
  ·clear hcase0
   have hflat := row_flat hk hxl hrel
   have hgb : gb < w.heap.size := (Array.getElem?_eq_some_iff.1 hg).1
   have hle : l.length * k ≤ cur.size := by rw [hcs]; exact Nat.mul_le_mul_right k hcap
   have hcell : ∀ j, j < l.length * k → cur[j]? = some (flatK enc k l.toArray)[j]! := fun j hj => by
    have h2 : (cur.toList.take (l.length * k))[j]? = xs[j]? := by rw [htake]
    rw [List.getElem?_take, if_pos hj] at h2
    have h3 : j < xs.length := by omega
    rw [← hflat]
    have h4 : xs.toArray[j]! = xs[j] := by simp [h3]
    rw [h4, ← List.getElem?_eq_getElem h3, ← h2]; simp
   have hH : HoldsK enc k w gb 0 l.toArray := fun j hj => by
    rw [size_flatK] at hj
    have hj : j < l.length * k := by simpa using hj
    refine ⟨?_, ?_⟩
    ·simp only [World.cell?, hg, Nat.zero_add]; exact hcell j hj
    ·simp [World.frozen?, hg]
   rw [he]
   refine (hs gb 0 cap l.toArray w hH hgb (by simp; omega)).mono ?_
   rintro e' w' ⟨rfl, d', n, os, hP, hSo, rfl⟩
   have hd' := sort_unique l l' hp' hs' ht d' hP hSo
   have hsz : d'.size = l.length := by simpa using hP.1
   have hd'' : d' = l'.toArray := by rw [← hd']
   have hll : l'.length = l.length := hp'.length_eq
   have hW : sortWorldK enc k w gb 0 n d' os = { w with heap := (w.heap.modify gb (onCells (putCells id 0 (flatK enc k d')))) ++ os, drawn := w.drawn + n } := rfl
   have hb0 : homeBlock (η 0) = some gb := by rw [he]; rfl
   have hown : ∀ b, Owned η [.arr e k (l'.map (encK enc))] b ↔ Owned η [.arr e k (l.map (encK enc))] b := fun b => by
    constructor <;> rintro ⟨i, o, h2, h3, h4⟩ <;> cases i with
    | zero => exact ⟨0, _, rfl, by simp, h4⟩
    | succ i => simp at h2
   have hkeep : ∀ b, b < w.heap.size → b ≠ gb → (sortWorldK enc k w gb 0 n d' os).heap[b]? = w.heap[b]? := fun b hb hne => by
    rw [hW]
    simp only
    rw [Array.getElem?_append_left (by simpa using hb), Array.getElem?_modify, if_neg (Ne.symm hne)]
   have hthere : (sortWorldK enc k w gb 0 n d' os).heap[gb]? = some (.cells (putCells id 0 (flatK enc k d') cur) e (0, 0)) := by
    rw [hW]
    simp only
    rw [Array.getElem?_append_left (by simpa using hgb), Array.getElem?_modify, if_pos rfl, hg]; rfl
   have hsize : w.heap.size ≤ (sortWorldK enc k w gb 0 n d' os).heap.size := by rw [hW]; simp
   refine ⟨_, η, rfl, ⟨?_, ?_, ?_, ?_⟩, by simp [RelV, Rel, RelL], ⟨rfl, rfl, rfl, hsize, ?_, ?_, ?_, ?_, ?_, ?_, ?_⟩⟩
   ·intro i o hi
    cases i with
    | succ i => simp at hi
    | zero =>
     simp only [List.getElem?_cons_zero, Option.some.injEq] at hi
     subst hi
     simp only [ObjRel]
     have hfs : (flatK enc k d').size = l.length * k := by simp [hsz]
     refine ⟨by simp [hll]; exact hlen, (flatK enc k d').toList, ⟨by simp [hsz, hll], .inr ⟨gb, cap, _, ?_, Nat.zero_le _, hthere, by simpa [hll] using hcap, ‹_›, by simp [putCells, hcs], ?_⟩⟩, ?_, ?_⟩
     ·rw [he]; simp [hll]
     ·apply List.ext_getElem?
      intro j
      rw [List.getElem?_take]
      simp only [List.length_map, hll]
      by_cases hj : j < l.length * k
      ·rw [if_pos hj]
       have hjc : j < cur.size := by omega
       simp only [putCells, Array.getElem?_toList, Array.getElem?_mapIdx, Array.getElem?_eq_getElem hjc, Option.map_some, hfs]
       rw [if_pos ⟨Nat.zero_le _, by omega⟩, Array.getElem?_eq_getElem (by omega), Nat.sub_zero, getElem!_pos _ _ (by omega)]; rfl
      ·rw [if_neg hj]
       simp only [Array.getElem?_toList]
       rw [Array.getElem?_eq_none (by omega)]
     ·intro x hx
      obtain ⟨j, hj, rfl⟩ := List.getElem_of_mem hx
      have hj2 : j < d'.size * k := by simpa using hj
      have k0 : 0 < k := by
       rcases Nat.eq_zero_or_pos k with h | h
       ·subst h; simp at hj2
       ·exact h
      have h2 := get_flatK enc k d' j hj2
      rw [getElem!_pos _ _ (by simpa using hj2)] at h2
      rw [Array.getElem_toList, h2, getElem!_pos _ _ (by rw [hk]; exact Nat.mod_lt _ k0)]
      exact h1 _ _ (List.getElem_mem _)
     ·exact flat_row hk h1 (by simp [hd''])
   ·intro i j o o' b h2 h3 h4 h5 h6 h7
    cases i with
    | succ i => simp at h2
    | zero => cases j with
     | succ j => simp at h4
     | zero => rfl
   ·intro b hb
    have h2 := hsg.out b ((hown b).1 hb)
    exact ⟨h2.1, Nat.lt_of_lt_of_le h2.2 hsize⟩
   ·intro b hb; exact Nat.lt_of_lt_of_le (hsg.bound b hb) hsize
   ·intro b hb hn
    refine hkeep b hb fun h => hn ⟨0, _, rfl, by simp, by rw [hb0, h]⟩
   ·intro b hb; exact .inl ((hown b).1 hb)
   ·intro i cs hi h2; cases i with
    | zero => cases h2
    | succ i => simp at h2
   ·intro i cs hi h2; cases i with
    | zero => cases h2
    | succ i => simp at h2
   ·intro i e2 es2 l2 hi h2; cases i with
    | succ i => simp at h2
    | zero =>
     simp only [List.getElem?_cons_zero, Option.some.injEq, Obj.arr.injEq] at h2
     obtain ⟨rfl, rfl, rfl⟩ := h2
     exact .inr ⟨_, rfl, .inr ⟨by simp [hll], rfl⟩⟩
   ·intro i hi h2; cases i with
    | zero => cases h2
    | succ i => simp at h2
   ·intro i p cs hi h2; cases i with
    | zero => cases h2
    | succ i => simp at h2
end Go.VM
namespace Go.Proofs
open Go.Shelf
def Tryz.sortL_ren : Go.Shelf.Ren := ⟨fun | 6 => 45 | 15 => 92 | 14 => 91 | 28 => 129 | 29 => 130 | 20 => 121 | 21 => 122 | 22 => 123 | 23 => 124 | 24 => 125 | 25 => 126 | 26 => 127 | 27 => 128 | 46 => 141 | 47 => 142 | 48 => 143 | 49 => 144 | 50 => 145 | 57 => 150 | n => n, fun | 22 => 26 | 24 => 63 | 25 => 97 | 3 => 3 | 39 => 137 | 0 => 0 | 53 => 175 | 55 => 45 | 4 => 4 | 46 => 168 | 45 => 167 | 50 => 172 | 5 => 5 | 9 => 9 | 66 => 186 | 70 => 190 | 76 => 196 | 77 => 197 | n => n, fun | n => n⟩
theorem Tryz.sortL : Go.Proofs.SlLaysF0.n6 Tryz.prog Tryz.sortL_ren := {
 mixed := by kernel_rfl
 f6 := ⟨Tryz.f45.name, by decide, Tryz.func45.trans (congrArg some (by kernel_rfl))⟩
 f14 := ⟨Tryz.f91.name, by decide, Tryz.func91.trans (congrArg some (by kernel_rfl))⟩
 f15 := Tryz.func92.trans (congrArg some (by kernel_rfl))
 f20 := ⟨Tryz.f121.name, by decide, Tryz.func121.trans (congrArg some (by kernel_rfl))⟩
 f21 := ⟨Tryz.f122.name, by decide, Tryz.func122.trans (congrArg some (by kernel_rfl))⟩
 f22 := ⟨Tryz.f123.name, by decide, Tryz.func123.trans (congrArg some (by kernel_rfl))⟩
 f23 := ⟨Tryz.f124.name, by decide, Tryz.func124.trans (congrArg some (by kernel_rfl))⟩
 f24 := ⟨Tryz.f125.name, by decide, Tryz.func125.trans (congrArg some (by kernel_rfl))⟩
 f25 := ⟨Tryz.f126.name, by decide, Tryz.func126.trans (congrArg some (by kernel_rfl))⟩
 f26 := ⟨Tryz.f127.name, by decide, Tryz.func127.trans (congrArg some (by kernel_rfl))⟩
 f27 := ⟨Tryz.f128.name, by decide, Tryz.func128.trans (congrArg some (by kernel_rfl))⟩
 f28 := Tryz.func129.trans (congrArg some (by kernel_rfl))
 f29 := Tryz.func130.trans (congrArg some (by kernel_rfl))
 f46 := ⟨Tryz.f141.name, by decide, Tryz.func141.trans (congrArg some (by kernel_rfl))⟩
 f47 := Tryz.func142.trans (congrArg some (by kernel_rfl))
 f48 := Tryz.func143.trans (congrArg some (by kernel_rfl))
 f49 := ⟨Tryz.f144.name, by decide, Tryz.func144.trans (congrArg some (by kernel_rfl))⟩
 f50 := ⟨Tryz.f145.name, by decide, Tryz.func145.trans (congrArg some (by kernel_rfl))⟩
 f57 := ⟨Tryz.f150.name, by decide, Tryz.func150.trans (congrArg some (by kernel_rfl))⟩
 t0 := Tryz.underlying0
 a0 := Tryz.isAgg0
 z0 := Tryz.sizeOf0
 v0 := Tryz.zeroValue0
 t3 := Tryz.underlying3
 a3 := Tryz.isAgg3
 z3 := Tryz.sizeOf3
 v3 := Tryz.zeroValue3
 t4 := Tryz.underlying4
 a4 := Tryz.isAgg4
 z4 := Tryz.sizeOf4
 v4 := Tryz.zeroValue4
 t5 := Tryz.underlying5
 a5 := Tryz.isAgg5
 z5 := Tryz.sizeOf5
 v5 := Tryz.zeroValue5
 t9 := Tryz.underlying9
 a9 := Tryz.isAgg9
 z9 := Tryz.sizeOf9
 v9 := Tryz.zeroValue9
 t22 := Tryz.underlying26
 a22 := Tryz.isAgg26
 z22 := Tryz.sizeOf26
 v22 := Tryz.zeroValue26
 t25 := Tryz.underlying97
 a25 := Tryz.isAgg97
 z25 := Tryz.sizeOf97
 v25 := Tryz.zeroValue97
 t39 := Tryz.underlying137
 a39 := Tryz.isAgg137
 z39 := Tryz.sizeOf137
 v39 := Tryz.zeroValue137
 t45 := Tryz.underlying167
 a45 := Tryz.isAgg167
 z45 := Tryz.sizeOf167
 v45 := Tryz.zeroValue167
 t46 := Tryz.underlying168
 a46 := Tryz.isAgg168
 z46 := Tryz.sizeOf168
 v46 := Tryz.zeroValue168
 t50 := Tryz.underlying172
 a50 := Tryz.isAgg172
 z50 := Tryz.sizeOf172
 v50 := Tryz.zeroValue172
 t53 := Tryz.underlying175
 a53 := Tryz.isAgg175
 z53 := Tryz.sizeOf175
 v53 := Tryz.zeroValue175
 t55 := Tryz.underlying45
 a55 := Tryz.isAgg45
 z55 := Tryz.sizeOf45
 v55 := Tryz.zeroValue45
 t66 := Tryz.underlying186
 a66 := Tryz.isAgg186
 z66 := Tryz.sizeOf186
 v66 := Tryz.zeroValue186
 t70 := Tryz.underlying190
 a70 := Tryz.isAgg190
 z70 := Tryz.sizeOf190
 v70 := Tryz.zeroValue190
 t76 := Tryz.underlying196
 a76 := Tryz.isAgg196
 z76 := Tryz.sizeOf196
 v76 := Tryz.zeroValue196
 t77 := Tryz.underlying197
 a77 := Tryz.isAgg197
 z77 := Tryz.sizeOf197
 v77 := Tryz.zeroValue197 }
end Go.Proofs
namespace Go.VM.Tryz
open Go.Proofs Go.Sort Go.RowKit
def sortable (l : List Ask) : Prop := (∀ a ∈ l, 0 ≤ a.cell.slot ∧ a.cell.slot ≤ 1000000) ∧ l.Pairwise (fun a b => a.cell.slot ≠ b.cell.slot)
instance (l : List Ask) : Decidable (sortable l) := inferInstanceAs (Decidable (_ ∧ _))
def sortAsk (l : List Ask) : List Ask := sortS (fun a b => decide (a.cell.slot < b.cell.slot)) l
@[simp] theorem sortAsk_len (l : List Ask) : (sortAsk l).length = l.length := (sortS_perm _ l).length_eq
abbrev AskS := { a : Ask // 0 ≤ a.cell.slot ∧ a.cell.slot ≤ 1000000 }
instance : Inhabited AskS := ⟨⟨⟨⟨0, 0⟩, 0⟩, by decide⟩⟩
def encS (a : AskS) : List Value := [.int .i64 a.1.cell.slot, .int .i64 a.1.cell.offset, .int .i64 a.1.peer]
def cfS (a b : AskS) : Int := a.1.cell.slot - b.1.cell.slot
theorem closure46 (x y : AskS) (W : World) : Calls Tryz.prog 46 #[.agg (encS x).toArray, .agg (encS y).toArray] W fun e w' => e = .returned (.int .i64 (cfS x y)) ∧ ∃ q os', w' = grow (W.drewN q) os' := by
 obtain ⟨⟨⟨s1, o1⟩, p1⟩, h1⟩ := x
 obtain ⟨⟨⟨s2, o2⟩, p2⟩, h2⟩ := y
 simp only at h1 h2
 have hw : IntKind.i64.wrap (s1 - s2) = s1 - s2 := i64_wrap (by omega) (by omega)
 simp only [encS, cfS]
 go_enter Tryz.func46, Tryz.ntmps46
 go_wp2
 go_ret
 refine ⟨?_, 0, _, by rw [alloc_eq_grow, alloc_eq_grow, grow_grow]; rfl⟩
 first | rfl | (rw [hw]) | (simp [hw])
theorem ltS (x y : AskS) : ltOf cfS x y = decide (x.1.cell.slot < y.1.cell.slot) := by
 unfold ltOf cfS
 by_cases h : x.1.cell.slot < y.1.cell.slot
 ·simp [h]; omega
 ·simp [h]; omega
theorem swoS : SWO (ltOf cfS) where
 irrefl x := by rw [ltS]; simp
 trans x y z h1 h2 := by rw [ltS] at *; simp at *; omega
 ntrans x y z h1 h2 := by rw [ltS] at *; simp at *; omega
theorem ins_map (x : AskS) : ∀ l : List AskS, (insS (ltOf cfS) x l).map (·.1) = insS (fun a b => decide (a.cell.slot < b.cell.slot)) x.1 (l.map (·.1))
 | [] => rfl
 | y :: l => by
  simp only [insS, List.map_cons, ltS]
  cases decide (y.1.cell.slot < x.1.cell.slot) with
  | true => simp [ins_map x l]
  | false => rfl
theorem sort_map : ∀ l : List AskS, (sortS (ltOf cfS) l).map (·.1) = sortAsk (l.map (·.1))
 | [] => rfl
 | x :: l => by
  show (insS (ltOf cfS) x (sortS (ltOf cfS) l)).map (·.1) = _
  rw [ins_map, sort_map l]; rfl
theorem sortAsk_ok (l : List Ask) (h : sortable l) : GCalls Tryz.prog 45 [.osl 0 l.length, .d (.fn (.func 46) [] [])] [.arr 63 3 (l.map encAsk)] (.d (.tuple [])) [.arr 63 3 ((sortAsk l).map encAsk)] := by
 have h1 := h.1
 have e1 : l = (l.attachWith _ h1).map (·.1) := by simp
 generalize l.attachWith _ h1 = m at e1
 subst e1
 have hd : ∀ a ∈ m, ∀ b ∈ m, ltOf cfS a b = false → ltOf cfS b a = false → a = b := by
  intro a ha b hb hab hba
  rw [ltS] at hab hba
  simp only [decide_eq_false_iff_not] at hab hba
  obtain ⟨i, hi, rfl⟩ := List.getElem_of_mem ha
  obtain ⟨j, hj, rfl⟩ := List.getElem_of_mem hb
  have hp := h.2
  rw [List.pairwise_map, List.pairwise_iff_getElem] at hp
  rcases Nat.lt_trichotomy i j with hij | hij | hij
  ·exact absurd (by omega) (hp i j hi hj hij)
  ·subst hij; rfl
  ·exact absurd (by omega) (hp j i hj hi hij)
 have hen : Enterable Tryz.prog 45 := ⟨_, Tryz.func45, by kernel_rfl, by kernel_rfl⟩
 have hg := gcalls_sort (P := Tryz.prog) (f := 45) (g := 46) hen 63 3 encS (fun _ => rfl) (fun x v hv => by simp [encS] at hv; rcases hv with rfl | rfl | rfl <;> rfl) (ltOf cfS) swoS
  (fun p cap fv w => AnyF.slices_SortFunc_none { Tryz.sortL with } p cap fv w)
  (fun blk off cap d w hH hb hs => AnyQ.slices_SortFunc Tryz.sortL 3 Tryz.isAgg63 Tryz.sizeOf63 encS (fun _ => rfl) (fun x v hv => by simp [encS] at hv; rcases hv with rfl | rfl | rfl <;> rfl) cfS swoS 46 #[] blk off cap d w (enters_of Tryz.func46 (by kernel_rfl) rfl) (fun _ _ _ _ x y => closure46 x y _) hH hb hs)
  m (sortS (ltOf cfS) m) (sortS_perm _ _) (sortS_sorted swoS m) hd
 have e2 : (m.map (·.1)).map encAsk = m.map (encK encS) := by rw [List.map_map]; rfl
 have e3 : (sortAsk (m.map (·.1))).map encAsk = (sortS (ltOf cfS) m).map (encK encS) := by rw [← sort_map, List.map_map]; rfl
 rw [e2, e3, List.length_map]
 exact hg
end Go.VM.Tryz
