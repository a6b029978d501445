/-
  Proved: BargainSettlingUptoSaid, for every input whose bulk is at most 1048576 values; no further condition. (This text is one part of the proof.)
-/
import Derived.Test.YthegffpdongaoaaGreatV04
import Derived.Test.YthegffpdongaoaaGreatV00
import Derived.Carry
import Derived.ChangeArms
import Derived.ChangeSame
import Derived.RowKit
import Derived.Deep.Slices
import Derived.OpenShut
import Derived.Test.YthegffpdongaoaaGreatRows
import Derived.JoinedCond
set_option linter.unusedVariables false
set_option linter.unusedSimpArgs false
set_option linter.unusedSectionVars false
namespace Go.VM.Tryz
theorem length_le_of_mem {α : Type} [BEq α] [LawfulBEq α] : ∀ {xs ys : List α}, xs.Nodup → (∀ x ∈ xs, x ∈ ys) → xs.length ≤ ys.length
 | [], _, _, _ => by simp
 | x :: xs, ys, hn, h => by
  rw [List.nodup_cons] at hn
  have hx := h x (by simp)
  have ih := length_le_of_mem (xs := xs) (ys := ys.erase x) hn.2 fun y hy => by
   have hne : y ≠ x := fun e => hn.1 (e ▸ hy)
   exact (List.mem_erase_of_ne hne).2 (h y (List.mem_cons_of_mem _ hy))
  rw [List.length_erase_of_mem hx] at ih
  have : 0 < ys.length := List.length_pos_of_mem hx
  simp only [List.length_cons]; omega
theorem step_grows (l : Layout) (t : Table) (me : Int) (near : List Near) (peer many : Int) (acc : List Ask) (c : Cell) : acc.length ≤ (askStep l t me near peer many acc c).length ∧ ∀ a ∈ acc, a ∈ askStep l t me near peer many acc c := by
 unfold askStep
 cases (possible l t me near peer c && (!(acc.any fun a => a.cell.slot == c.slot) && decide ((acc.length : Int) < many))) with
 | false => exact ⟨Nat.le_refl _, fun a h => h⟩
 | true => exact ⟨by simp, fun a h => by simp [h]⟩
theorem fold_grows (l : Layout) (t : Table) (me : Int) (near : List Near) (peer many : Int) (f : Nat → Cell) : ∀ (ks : List Nat) (acc : List Ask), acc.length ≤ (ks.foldl (fun acc k => askStep l t me near peer many acc (f k)) acc).length ∧ ∀ a ∈ acc, a ∈ ks.foldl (fun acc k => askStep l t me near peer many acc (f k)) acc
 | [], acc => ⟨Nat.le_refl _, fun a h => h⟩
 | k :: ks, acc => by
  have h1 := step_grows l t me near peer many acc (f k)
  have h2 := fold_grows l t me near peer many f ks (askStep l t me near peer many acc (f k))
  exact ⟨Nat.le_trans h1.1 h2.1, fun a h => h2.2 a (h1.2 a h)⟩
theorem fold_asks {l : Layout} {t : Table} {me : Int} {near : List Near} {peer many : Int} (hp : ∀ c, possible l t me near peer c = true) (f : Nat → Cell) : ∀ (ks : List Nat) (acc : List Ask) (k : Nat), k ∈ ks → ((ks.foldl (fun acc k => askStep l t me near peer many acc (f k)) acc).length : Int) < many →
  ∃ a ∈ ks.foldl (fun acc k => askStep l t me near peer many acc (f k)) acc, a.cell.slot = (f k).slot
 | [], _, _, hk, _ => by simp at hk
 | j :: ks, acc, k, hk, hl => by
  rw [List.foldl_cons] at hl ⊢
  rcases List.mem_cons.1 hk with rfl | hk
  ·have hg := fold_grows l t me near peer many f ks (askStep l t me near peer many acc (f k))
   have hs := (step_grows l t me near peer many acc (f k)).1
   have hlt : decide ((acc.length : Int) < many) = true := by rw [decide_eq_true_eq]; omega
   have : ∃ a ∈ askStep l t me near peer many acc (f k), a.cell.slot = (f k).slot := by
    unfold askStep
    rw [hp, hlt]
    cases ha : acc.any fun a => a.cell.slot == (f k).slot with
    | true =>
     rw [List.any_eq_true] at ha
     obtain ⟨a, h1, h2⟩ := ha
     exact ⟨a, h1, by simpa using h2⟩
    | false => exact ⟨⟨f k, peer⟩, by simp, rfl⟩
   obtain ⟨a, h1, h2⟩ := this
   exact ⟨a, hg.2 a h1, h2⟩
  ·exact fold_asks hp f ks _ k hk hl
theorem tried_many {l : Layout} {t : Table} {me : Int} {near : List Near} {peer many frame : Int} (hv : ValidT l t) (h0 : 0 ≤ many) (hm : 0 ≤ me) (hf : 0 ≤ frame) (hp : ∀ c, possible l t me near peer c = true) :
  many ≤ ((triedAsks l t me near peer many frame).length : Int) ∨ l.data ≤ ((triedAsks l t me near peer many frame).length : Int) := by
 by_cases hl : ((triedAsks l t me near peer many frame).length : Int) < many
 ·right
  have hd1 := hv.d1
  have h1 : ∀ s ∈ (List.range l.data.toNat).map (fun n : Nat => (n : Int)), s ∈ (triedAsks l t me near peer many frame).map (fun a => a.cell.slot) := fun s hs => by
   simp only [List.mem_map, List.mem_range] at hs
   obtain ⟨n, hn, rfl⟩ := hs
   have hb : 0 ≤ 17 * me + 5 * frame := by omega
   have hM : 0 < 16 * l.data := by omega
   have hr0 := Int.emod_nonneg ((n : Int) - (17 * me + 5 * frame)) (show 16 * l.data ≠ 0 by omega)
   have hr1 := Int.emod_lt_of_pos ((n : Int) - (17 * me + 5 * frame)) hM
   obtain ⟨k, hk⟩ : ∃ k : Nat, (k : Int) = ((n : Int) - (17 * me + 5 * frame)) % (16 * l.data) := ⟨(((n : Int) - (17 * me + 5 * frame)) % (16 * l.data)).toNat, Int.toNat_of_nonneg hr0⟩
   have hc : (cellAt l me frame k).slot = n := by
    have e1 : (17 * me + 5 * frame + k).tmod (16 * l.data) = n := by
     rw [Int.tmod_eq_emod_of_nonneg (by omega), hk, Int.add_emod_emod]
     rw [show 17 * me + 5 * frame + ((n : Int) - (17 * me + 5 * frame)) = n by omega]
     exact Int.emod_eq_of_lt (by omega) (by omega)
    show ((17 * me + 5 * frame + k).tmod (16 * l.data)).tmod l.data = n
    rw [e1, Int.tmod_eq_emod_of_nonneg (by omega)]
    exact Int.emod_eq_of_lt (by omega) (by omega)
   obtain ⟨a, h2, h3⟩ := fold_asks (t := t) (me := me) (near := near) (peer := peer) (many := many) hp (fun k => cellAt l me frame (k : Int)) (List.range (16 * l.data).toNat) (keptAsks l t me near peer many) k (by rw [List.mem_range]; omega) hl
   rw [List.mem_map]
   exact ⟨a, h2, by rw [h3, hc]⟩
  have hn : ((List.range l.data.toNat).map (fun n : Nat => (n : Int))).Nodup := by
   rw [List.nodup_iff_pairwise_ne, List.pairwise_map]
   exact List.pairwise_lt_range.imp fun h => by omega
  have := length_le_of_mem hn h1
  simp only [List.length_map, List.length_range] at this
  omega
 ·left; omega
theorem code0U {l : Layout} {t : Table} {u : Use} (hv : ValidT l t) (hu : isUse u l = true) (hb : busy t u.cell.slot = false) (hl : t.uses.length + t.grants.length < 24) : codeTUse l t u = 0 := by
 unfold codeTUse refusedT
 have : decide (t.uses.length + t.grants.length ≥ 24) = false := by rw [decide_eq_false_iff_not]; omega
 rw [validT_iff.2 hv, hu, hb, this]; rfl
theorem code0G {l : Layout} {t : Table} {u : Grant} (hv : ValidT l t) (hu : isGrant u l = true) (hb : busy t u.cell.slot = false) (hl : t.uses.length + t.grants.length < 24) : codeTGrant l t u = 0 := by
 unfold codeTGrant refusedT
 have : decide (t.uses.length + t.grants.length ≥ 24) = false := by rw [decide_eq_false_iff_not]; omega
 rw [validT_iff.2 hv, hu, hb, this]; rfl
theorem busy_of {t : Table} {s : Int} (h1 : ∀ u ∈ t.uses, u.cell.slot ≠ s) (h2 : ∀ u ∈ t.grants, u.cell.slot ≠ s) : busy t s = false := by
 simp only [busy, Bool.or_eq_false_iff, List.any_eq_false, beq_iff_eq]; exact ⟨h1, h2⟩
theorem fold_uses {l : Layout} {me frame : Int} {n : Near} (hn : 0 ≤ n.src ∧ n.src < l.nodes) : ∀ (gs : List Grant) (t : Table), (∀ g ∈ gs, mineC l me frame g = true ∧ (∀ u ∈ t.uses, u.cell.slot ≠ g.cell.slot) ∧ ∀ u ∈ t.grants, u.cell.slot ≠ g.cell.slot) → gs.Pairwise (fun x y => x.cell.slot ≠ y.cell.slot) → ValidT l t → t.uses.length + t.grants.length + gs.length ≤ 24 →
  (gs.foldl (tStep l me frame n) t).uses.length = t.uses.length + gs.length
 | [], t, _, _, _, _ => rfl
 | g :: gs, t, h, hp, hv, hl => by
  rw [List.pairwise_cons] at hp
  obtain ⟨h1, h2, h3⟩ := h g (by simp)
  simp only [List.length_cons] at hl
  have hu : isUse ⟨g.cell, n.src, g.stamp⟩ l = true := by
   simp only [mineC, isGrant, isUse, placed, Bool.and_eq_true, decide_eq_true_eq] at h1 ⊢
   omega
  have hc := code0U hv hu (busy_of h2 h3) (by omega)
  have e : tStep l me frame n t g = putTUse t ⟨g.cell, n.src, g.stamp⟩ := by
   unfold tStep addTUse; rw [h1, hc]; rfl
  rw [List.foldl_cons, e, fold_uses hn gs _ (fun g' hg' => ?_) hp.2 (put_validU hc) (by simp only [putTUse, ins_length]; omega)]
  ·simp only [putTUse, ins_length, List.length_cons]; omega
  ·obtain ⟨q1, q2, q3⟩ := h g' (List.mem_cons_of_mem _ hg')
   refine ⟨q1, fun u hu => ?_, q3⟩
   rcases mem_ins.1 hu with rfl | hu
   ·exact hp.1 g' hg'
   ·exact q2 u hu
theorem fold_grants {l : Layout} {me frame : Int} {near : List Near} {n : Near} (hn : 0 ≤ n.src ∧ n.src < l.nodes) (hf : 0 ≤ frame ∧ frame ≤ 999999992) : ∀ (zs : List Ask) (t : Table), (∀ a ∈ zs, isAsk a l = true ∧ a.peer = me ∧ usedC l near a.cell n.src = false ∧ (∀ u ∈ t.uses, u.cell.slot ≠ a.cell.slot) ∧ ∀ u ∈ t.grants, u.cell.slot ≠ a.cell.slot) → zs.Pairwise (fun x y => x.cell.slot ≠ y.cell.slot) → ValidT l t → t.uses.length + t.grants.length + zs.length ≤ 24 →
  (zs.foldl (gStep l me near frame n) t).grants.length = t.grants.length + zs.length
 | [], t, _, _, _, _ => rfl
 | a :: zs, t, h, hp, hv, hl => by
  rw [List.pairwise_cons] at hp
  obtain ⟨h1, h4, h5, h2, h3⟩ := h a (by simp)
  simp only [List.length_cons] at hl
  have hu : isGrant ⟨a.cell, n.src, frame, frame + 8⟩ l = true := by
   simp only [isAsk, isGrant, placed, Bool.and_eq_true, decide_eq_true_eq] at h1 ⊢
   omega
  have hc := code0G hv hu (busy_of h2 h3) (by omega)
  have e : gStep l me near frame n t a = putTGrant t ⟨a.cell, n.src, frame, frame + 8⟩ := by
   unfold gStep addTGrant; rw [h1, h5, hc, h4]; simp
  rw [List.foldl_cons, e, fold_grants hn hf zs _ (fun g' hg' => ?_) hp.2 (put_validG hc) (by simp only [putTGrant, ins_length]; omega)]
  ·simp only [putTGrant, ins_length, List.length_cons]; omega
  ·obtain ⟨q1, q4, q5, q2, q3⟩ := h g' (List.mem_cons_of_mem _ hg')
   refine ⟨q1, q4, q5, q2, fun u hu => ?_⟩
   rcases mem_ins.1 hu with rfl | hu
   ·exact hp.1 g' hg'
   ·exact q3 u hu
noncomputable def frameP (l : Layout) (frame many : Int) (p : TPair) : TPair := turnP l frame (maxI 0 (many - ((nextP l frame true true p).sender.uses.length : Int))) (nextP l frame true true p)
def Kept (frame : Int) (p : TPair) : Prop := ∀ u ∈ p.sender.uses, u.peer = 0 ∧ ∃ g ∈ p.listener.grants, g.cell = u.cell ∧ g.peer = 1 ∧ g.til ≥ frame
theorem kept_frame {l : Layout} (hl : l.nodes = 2) {frame : Int} (hf0 : 0 ≤ frame) (hf1 : frame ≤ 999999990) {p : TPair} (hp : Pair l frame p) (hk : Kept frame p) (many : Int) : Kept (frame + 1) (frameP l frame many p) ∧ p.sender.uses.length ≤ (frameP l frame many p).sender.uses.length := by
 have hb := bs_next hl hf0 hf1 hp true
 have hva := validA_two hl hp.sv (me := 1) (.inr rfl) hf0 (by omega) hb
 have hs := (take_valid hva).1
 simp only [cond_true] at hva hs
 have hu : ∀ u ∈ (takeT l p.sender 1 (told 0 p.listener frame) frame).uses, u.peer = 0 ∧ ∃ g ∈ p.listener.grants, g.cell = u.cell ∧ g.peer = 1 ∧ g.til ≥ frame := fun u hu => by
  obtain ⟨n, hn, h1, g, hg, h2, h3, h4, _⟩ := take_granted u hu
  simp only [told_eq, List.mem_singleton] at hn
  subst hn
  exact ⟨h1.symm, g, hg, h2, h3, h4⟩
 refine ⟨fun u hu' => ?_, ?_⟩
 ·have hu' : u ∈ (takeT l p.sender 1 (told 0 p.listener frame) frame).uses := hu'
  obtain ⟨h0, g, h1, h2, h3, h4⟩ := hu u hu'
  have hkp := grant_keeps (l := l) (me := 0) (near := told 1 (takeT l p.sender 1 (told 0 p.listener frame) frame) frame) h1 h4
  refine ⟨h0, _, hkp, h2, h3, ?_⟩
  have e1 : findN (told 1 (takeT l p.sender 1 (told 0 p.listener frame) frame) frame) g.peer = some ⟨frame, 1, takeT l p.sender 1 (told 0 p.listener frame) frame, noRest⟩ := by rw [h3]; rfl
  have e2 : heard ⟨frame, 1, takeT l p.sender 1 (told 0 p.listener frame) frame, noRest⟩ frame = true := by unfold heard; rw [decide_eq_true_eq]; show frame + 1 ≥ frame; omega
  have e3 : tellsC l ⟨frame, 1, takeT l p.sender 1 (told 0 p.listener frame) frame, noRest⟩ g.cell 0 = true := by
   unfold tellsC usesC
   rw [Bool.or_eq_true]
   refine .inl ?_
   rw [List.any_eq_true]
   refine ⟨u, hu', ?_⟩
   simp only [Bool.and_eq_true, cellEq_iff, Bool.or_eq_true, beq_iff_eq]
   exact ⟨hs.u u hu', h2.symm, .inr h0⟩
  unfold renew
  rw [e1]
  simp only [e2, e3, Bool.and_self, cond_true]
  show maxI g.til (frame + 8) ≥ frame + 1
  unfold maxI; split <;> omega
 ·show p.sender.uses.length ≤ (takeT l p.sender 1 (told 0 p.listener frame) frame).uses.length
  refine take_ind (fun t' => p.sender.uses.length ≤ t'.uses.length) (fun n _ _ g _ _ t' h _ => ?_) _ ?_
  ·simp only [putTUse, ins_length]; omega
  ·have : ∀ us : List Use, (∀ u ∈ us, u ∈ p.sender.uses) → (us.filterMap (keepUse l 1 (told 0 p.listener frame) frame)).length = us.length := by
    intro us
    induction us with
    | nil => intro _; rfl
    | cons u us ih =>
     intro h
     obtain ⟨h0, g, h1, h2, h3, h4⟩ := hk u (h u (by simp))
     have : ∃ v, keepUse l 1 (told 0 p.listener frame) frame u = some v := by
      unfold keepUse grantedC
      rw [h0, show findN (told 0 p.listener frame) 0 = some ⟨frame, 0, p.listener, noRest⟩ from rfl]
      have hfs : (p.listener.grants.find? fun g => mineC l 1 frame g && cellEq g.cell u.cell).isSome = true := by
       rw [List.find?_isSome]
       refine ⟨g, h1, ?_⟩
       simp only [mineC, Bool.and_eq_true, cellEq_iff, beq_iff_eq, decide_eq_true_eq]
       exact ⟨⟨hp.lv.g g h1, h3, h4⟩, h2⟩
      obtain ⟨g', hg'⟩ := Option.isSome_iff_exists.1 hfs
      exact ⟨⟨u.cell, 0, g'.stamp⟩, by simp only [Option.bind_some, hg', Option.map_some]⟩
     obtain ⟨v, hv⟩ := this
     rw [List.filterMap_cons, hv]
     simp only [List.length_cons, ih fun x hx => h x (List.mem_cons_of_mem _ hx)]
   exact Nat.le_of_eq (this _ fun _ h => h).symm
def emptyT : Table := ⟨[], [], []⟩
theorem first_possible (l : Layout) (zs : List Ask) (frame : Int) (c : Cell) : possible l ⟨[], [], zs⟩ 1 (told 0 emptyT frame) 0 c = true := rfl
theorem ask_len {l : Layout} {zs : List Ask} (hv : ValidT l ⟨[], [], zs⟩) {many frame : Int} (h0 : 0 ≤ many) (hf : 0 ≤ frame) : minI many l.data ≤ ((askT l ⟨[], [], zs⟩ 1 (told 0 emptyT frame) 0 many frame).asks.length : Int) := by
 have := tried_many (near := told 0 emptyT frame) (peer := 0) hv h0 (show (0 : Int) ≤ 1 by decide) hf (first_possible l zs frame)
 simp only [askT, sortAsk_len]
 unfold minI; split <;> omega
theorem frame0 {l : Layout} {f many : Int} : frameP l f many ⟨emptyT, emptyT, [], []⟩ = ⟨emptyT, askT l emptyT 1 (told 0 emptyT f) 0 (maxI 0 (many - 0)) f, told 1 emptyT f, told 0 emptyT f⟩ := by
 have e1 : takeT l emptyT 1 (told 0 emptyT f) f = emptyT := rfl
 have e2 : grantT l emptyT 0 (told 1 emptyT f) f = emptyT := by
  show gNear l 0 (told 1 emptyT f) f emptyT ⟨f, 1, emptyT, noRest⟩ = emptyT
  unfold gNear
  cases heard ⟨f, 1, emptyT, noRest⟩ f <;> rfl
 have e3 : nextP l f true true ⟨emptyT, emptyT, [], []⟩ = ⟨emptyT, emptyT, told 1 emptyT f, told 0 emptyT f⟩ := by
  unfold nextP; simp only [cond_true, e1]
 unfold frameP turnP
 rw [e3]
 simp only [e2]; rfl
theorem settle3 {l : Layout} (hl : l.nodes = 2) (h1 : 1 ≤ l.data) (h2 : l.data ≤ 60) {many : Int} (hm0 : 0 ≤ many) (hm1 : many ≤ 24) {f : Int} (hf0 : 0 ≤ f) (hf1 : f ≤ 999999900) :
  minI many l.data ≤ ((frameP l (f + 2) many (frameP l (f + 1) many (frameP l f many ⟨emptyT, emptyT, [], []⟩))).sender.uses.length : Int) := by
 have ve : ValidT l emptyT := by constructor <;> first | omega | simp [emptyT]
 have hmx : maxI 0 (many - 0) = many := by unfold maxI; split <;> omega
 rw [frame0, hmx]
 have hva0 := validA_two hl ve (me := 1) (near := told 0 emptyT f) (.inr rfl) hf0 (by omega) (.inr ⟨_, _, rfl, ve, hf0, Int.le_refl _⟩)
 have va := ask_valid (peer := 0) hva0 hm0 hm1
 have la := ask_len (l := l) (zs := []) ve hm0 hf0
 have pa : ∀ a ∈ (askT l emptyT 1 (told 0 emptyT f) 0 many f).asks, a.peer = 0 := fun a ha => (ask_good hva0 a ha).2.2.1
 have la : minI many l.data ≤ ((askT l emptyT 1 (told 0 emptyT f) 0 many f).asks.length : Int) := la
 obtain ⟨A, hA⟩ : ∃ A, askT l emptyT 1 (told 0 emptyT f) 0 many f = ⟨[], [], A⟩ := ⟨_, rfl⟩
 rw [hA] at va la pa ⊢
 simp only at la pa
 have e1 : takeT l ⟨[], [], A⟩ 1 (told 0 emptyT (f + 1)) (f + 1) = ⟨[], [], A⟩ := by
  show tNear l ⟨[], [], A⟩ 1 (f + 1) ⟨[], [], A⟩ ⟨f + 1, 0, emptyT, noRest⟩ = _
  unfold tNear
  cases partnerB ⟨[], [], A⟩ (Near.src ⟨f + 1, 0, emptyT, noRest⟩) <;> rfl
 have e2 : nextP l (f + 1) true true ⟨emptyT, ⟨[], [], A⟩, told 1 emptyT f, told 0 emptyT f⟩ = ⟨emptyT, ⟨[], [], A⟩, told 1 ⟨[], [], A⟩ (f + 1), told 0 emptyT (f + 1)⟩ := by
  unfold nextP; simp only [cond_true, e1]
 have e3 : frameP l (f + 1) many ⟨emptyT, ⟨[], [], A⟩, told 1 emptyT f, told 0 emptyT f⟩ = ⟨grantT l emptyT 0 (told 1 ⟨[], [], A⟩ (f + 1)) (f + 1), askT l ⟨[], [], A⟩ 1 (told 0 emptyT (f + 1)) 0 many (f + 1), told 1 ⟨[], [], A⟩ (f + 1), told 0 emptyT (f + 1)⟩ := by
  unfold frameP turnP
  rw [e2]
  simp only [List.length_nil]
  rw [show maxI 0 (many - ((0 : Nat) : Int)) = many from hmx]
 rw [e3]
 have hvb := validA_two hl va (me := 1) (near := told 0 emptyT (f + 1)) (.inr rfl) (by omega) (by omega) (.inr ⟨_, _, rfl, ve, by omega, Int.le_refl _⟩)
 have vb := ask_valid (peer := 0) hvb hm0 hm1
 have lb := ask_len (l := l) va hm0 (show 0 ≤ f + 1 by omega)
 have pb : ∀ a ∈ (askT l ⟨[], [], A⟩ 1 (told 0 emptyT (f + 1)) 0 many (f + 1)).asks, a.peer = 0 := fun a ha => (ask_good hvb a ha).2.2.1
 obtain ⟨B, hB⟩ : ∃ B, askT l ⟨[], [], A⟩ 1 (told 0 emptyT (f + 1)) 0 many (f + 1) = ⟨[], [], B⟩ := ⟨_, rfl⟩
 rw [hB] at vb lb pb ⊢
 simp only at lb pb
 have hvl := validA_two hl ve (me := 0) (near := told 1 ⟨[], [], A⟩ (f + 1)) (.inl rfl) (show 0 ≤ f + 1 by omega) (by omega) (.inr ⟨_, _, rfl, va, by omega, Int.le_refl _⟩)
 have vl := grant_valid hvl
 have gf := grant_from (l := l) (t := emptyT) (me := 0) (near := told 1 ⟨[], [], A⟩ (f + 1)) (frame := f + 1)
 have lg : (grantT l emptyT 0 (told 1 ⟨[], [], A⟩ (f + 1)) (f + 1)).grants.length = A.length := by
  have e4 : grantT l emptyT 0 (told 1 ⟨[], [], A⟩ (f + 1)) (f + 1) = A.foldl (gStep l 0 (told 1 ⟨[], [], A⟩ (f + 1)) (f + 1) ⟨f + 1, 1, ⟨[], [], A⟩, noRest⟩) emptyT := by
   show gNear l 0 (told 1 ⟨[], [], A⟩ (f + 1)) (f + 1) emptyT ⟨f + 1, 1, ⟨[], [], A⟩, noRest⟩ = _
   unfold gNear
   have : heard ⟨f + 1, 1, ⟨[], [], A⟩, noRest⟩ (f + 1) = true := by unfold heard; rw [decide_eq_true_eq]; show f + 1 + 1 ≥ f + 1; omega
   rw [this]; rfl
  have hlen := va.alen
  rw [e4, fold_grants (by simp only; omega) ⟨by omega, by omega⟩ A emptyT (fun a ha => ⟨va.a a ha, pa a ha, rfl, fun u hu => by simp [emptyT] at hu, fun u hu => by simp [emptyT] at hu⟩) (va.ac.imp fun h => by omega) ve (by simp only [emptyT, List.length_nil]; simp only at hlen; omega)]
  simp [emptyT]
 have gl : ∀ g ∈ (grantT l emptyT 0 (told 1 ⟨[], [], A⟩ (f + 1)) (f + 1)).grants, g.peer = 1 ∧ g.til = f + 9 := fun g hg => by
  rcases gf g hg with ⟨g', h3, _⟩ | ⟨_, h3, n, hn, h4, _⟩
  ·simp [emptyT] at h3
  ·simp only [told_eq, List.mem_singleton] at hn
   subst hn
   exact ⟨h4.symm, by omega⟩
 obtain ⟨G, hG⟩ : ∃ G, grantT l emptyT 0 (told 1 ⟨[], [], A⟩ (f + 1)) (f + 1) = G := ⟨_, rfl⟩
 rw [hG] at vl lg gl ⊢
 have vg := vl.1
 have ug : G.uses = [] := vl.2
 show minI many l.data ≤ ((takeT l ⟨[], [], B⟩ 1 (told 0 G (f + 2)) (f + 2)).uses.length : Int)
 by_cases hm : minI many l.data ≤ 0
 ·omega
 ·have hBn : partnerB ⟨[], [], B⟩ 0 = true := by
   cases B with
   | nil => simp only [List.length_nil] at lb; omega
   | cons b B =>
    have := pb b (by simp)
    simp [partnerB, this]
  have e5 : takeT l ⟨[], [], B⟩ 1 (told 0 G (f + 2)) (f + 2) = G.grants.foldl (tStep l 1 (f + 2) ⟨f + 2, 0, G, noRest⟩) ⟨[], [], B⟩ := by
   show tNear l ⟨[], [], B⟩ 1 (f + 2) ⟨[], [], B⟩ ⟨f + 2, 0, G, noRest⟩ = _
   unfold tNear
   rw [show partnerB ⟨[], [], B⟩ (Near.src ⟨f + 2, 0, G, noRest⟩) = true from hBn]; rfl
  have hgl := vg.len
  rw [ug] at hgl
  rw [e5, fold_uses (by simp only; omega) G.grants ⟨[], [], B⟩ (fun g hg => ⟨by
   obtain ⟨h3, h4⟩ := gl g hg
   simp only [mineC, Bool.and_eq_true, beq_iff_eq, decide_eq_true_eq]
   exact ⟨vg.g g hg, h3, by omega⟩, fun u hu => by simp at hu, fun u hu => by simp at hu⟩) (vg.gs.imp fun h => by omega) vb (by simp only [List.length_nil]; simp only [List.length_nil] at hgl; omega)]
  simp only [List.length_nil, Nat.zero_add]
  omega
noncomputable def framesP (l : Layout) (first many : Int) : Nat → TPair
 | 0 => ⟨emptyT, emptyT, [], []⟩
 | n + 1 => frameP l (first + n) many (framesP l first many n)
theorem frames_ok {l : Layout} (hl : l.nodes = 2) (h1 : 1 ≤ l.data) (h2 : l.data ≤ 60) {many : Int} (hm0 : 0 ≤ many) (hm1 : many ≤ 24) {f : Int} (hf0 : 0 ≤ f) (hf1 : f ≤ 999999900) : ∀ n : Nat, n ≤ 12 → Pair l (f + n) (framesP l f many n) ∧ Kept (f + n) (framesP l f many n) ∧ (3 ≤ n → minI many l.data ≤ ((framesP l f many n).sender.uses.length : Int))
 | 0, _ => by
  have ve : ValidT l emptyT := by constructor <;> first | omega | simp [emptyT]
  exact ⟨⟨ve, ve, .inl rfl, .inl rfl⟩, fun u hu => by simp [framesP, emptyT] at hu, fun h => by omega⟩
 | n + 1, hn => by
  obtain ⟨p1, p2, p3⟩ := frames_ok hl h1 h2 hm0 hm1 hf0 hf1 n (by omega)
  have hk := kept_frame hl (by omega) (by omega) p1 p2 many
  have np := (kPairNext_eq hl (by omega) (by omega) p1 many true true).2
  have hmx : 0 ≤ maxI 0 (many - ((nextP l (f + n) true true (framesP l f many n)).sender.uses.length : Int)) ∧ maxI 0 (many - ((nextP l (f + n) true true (framesP l f many n)).sender.uses.length : Int)) ≤ 24 := by
   unfold maxI; split <;> omega
  have tp := (kPairTurn_eq hl (by omega) (by omega) np hmx.1 hmx.2).2
  have ef : f + (n : Int) + 1 = f + ((n + 1 : Nat) : Int) := by simp; omega
  rw [ef] at tp
  refine ⟨tp, by rw [← ef]; exact hk.1, fun h3 => ?_⟩
  by_cases h : n = 2
  ·subst h
   have := settle3 hl h1 h2 hm0 hm1 hf0 hf1
   simp only [framesP, Int.natCast_zero, Int.add_zero]
   exact this
  ·have := p3 (by omega)
   have := hk.2
   show minI many l.data ≤ ((frameP l (f + n) many (framesP l f many n)).sender.uses.length : Int)
   omega
theorem law8_L1_eq {data : Int} (h1 : 1 ≤ data) (h2 : data ≤ 60) {many : Int} (hm0 : 0 ≤ many) (hm1 : many ≤ 24) {f : Int} (hf0 : 0 ≤ f) (hf1 : f ≤ 999999900) : ∀ (k n : Nat), n + k = 12 →
  ∃ v, kLaw8_L1 data many f k n true (framesP ⟨2, data⟩ f many n).listener.uses (framesP ⟨2, data⟩ f many n).listener.grants (framesP ⟨2, data⟩ f many n).listener.asks (framesP ⟨2, data⟩ f many n).sender.uses (framesP ⟨2, data⟩ f many n).sender.grants (framesP ⟨2, data⟩ f many n).sender.asks (framesP ⟨2, data⟩ f many n).byListener (framesP ⟨2, data⟩ f many n).bySender = some v ∧ v.1 = true
 | 0, n, _ => ⟨_, rfl, rfl⟩
 | k + 1, n, hn => by
  obtain ⟨p1, p2, _⟩ := frames_ok (l := ⟨2, data⟩) rfl h1 h2 hm0 hm1 hf0 hf1 n (by omega)
  have ew : IntKind.i64.wrap (f + n) = f + n := wr (by omega) (by omega)
  have ef : (n : Int) + 1 = ((n + 1 : Nat) : Int) := by simp
  simp only [kLaw8_L1]
  obtain ⟨n1, n2⟩ := kPairNext_eq (l := ⟨2, data⟩) rfl (frame := f + n) (by omega) (by omega) p1 many true true
  have n1 : kPairNext ⟨⟨(framesP ⟨2, data⟩ f many n).listener.uses, (framesP ⟨2, data⟩ f many n).listener.grants, (framesP ⟨2, data⟩ f many n).listener.asks⟩, ⟨(framesP ⟨2, data⟩ f many n).sender.uses, (framesP ⟨2, data⟩ f many n).sender.grants, (framesP ⟨2, data⟩ f many n).sender.asks⟩, (framesP ⟨2, data⟩ f many n).byListener, (framesP ⟨2, data⟩ f many n).bySender⟩ ⟨2, data⟩ (f + n) many true true = _ := n1
  have hlen := n2.sv.len
  have hmx : 0 ≤ maxI 0 (many - ((nextP ⟨2, data⟩ (f + n) true true (framesP ⟨2, data⟩ f many n)).sender.uses.length : Int)) ∧ maxI 0 (many - ((nextP ⟨2, data⟩ (f + n) true true (framesP ⟨2, data⟩ f many n)).sender.uses.length : Int)) ≤ 24 := by
   unfold maxI; split <;> omega
  obtain ⟨m1, _⟩ := kPairTurn_eq (l := ⟨2, data⟩) rfl (frame := f + n) (by omega) (by omega) n2 hmx.1 hmx.2
  have ex : IntKind.i64.wrap (many - ((nextP ⟨2, data⟩ (f + n) true true (framesP ⟨2, data⟩ f many n)).sender.uses.length : Int)) = many - ((nextP ⟨2, data⟩ (f + n) true true (framesP ⟨2, data⟩ f many n)).sender.uses.length : Int) := wr (by omega) (by omega)
  rw [ew, n1]
  simp only [Option.bind_some, ex, m1, ef]
  have hc : (true && (decide ((n : Int) < 2) || decide (((turnP ⟨2, data⟩ (f + n) (maxI 0 (many - ((nextP ⟨2, data⟩ (f + n) true true (framesP ⟨2, data⟩ f many n)).sender.uses.length : Int))) (nextP ⟨2, data⟩ (f + n) true true (framesP ⟨2, data⟩ f many n))).sender.uses.length : Int) ≥ minI many data))) = true := by
   by_cases h3 : n < 2
   ·have : decide ((n : Int) < 2) = true := by rw [decide_eq_true_eq]; omega
    rw [this]; rfl
   ·obtain ⟨_, _, q⟩ := frames_ok (l := ⟨2, data⟩) rfl h1 h2 hm0 hm1 hf0 hf1 (n + 1) (by omega)
    have q := q (by omega)
    rw [Bool.true_and, Bool.or_eq_true, decide_eq_true_eq, decide_eq_true_eq]
    exact .inr q
  rw [hc]
  exact law8_L1_eq h1 h2 hm0 hm1 hf0 hf1 k (n + 1) (by omega)
theorem law8_true (data many first : Int) : kLaw8 data many first = some true := by
 unfold kLaw8
 rw [head_true]
 simp only [Option.bind_some]
 cases hc : ((decide (data < 1)) || ((decide (data > 60)) || ((decide (many < 0)) || ((decide (many > 24)) || ((decide (first < 0)) || (decide (first > 999999900))))))) with
 | true => rfl
 | false =>
  simp only [Bool.or_eq_false_iff, decide_eq_false_iff_not] at hc
  obtain ⟨v, h1, h2⟩ := law8_L1_eq (data := data) (many := many) (f := first) (by omega) (by omega) (by omega) (by omega) (by omega) (by omega) 12 0 rfl
  have h1 : kLaw8_L1 data many first ((12 : Int) - 0).toNat 0 true [] [] [] [] [] [] [] [] = some v := h1
  rw [h1]
  simp only [cond_false, Option.bind_some, h2]
end Go.VM.Tryz
namespace Go.VM
open Go.RowKit Go.ChangeShapes Go.WideShapes
structure BulkOk {H : Type} (bk : DataW H → Nat) (ba : List (DataW H) → Nat) : Prop where
 slice : ∀ e s, ba e + 1 ≤ bk (.slice e s)
 agg : ∀ e, ba e ≤ bk (.agg e)
 mem : ∀ d l, d ∈ l → bk d ≤ ba l
 len : ∀ l, l.length ≤ ba l
section
variable {H : Type} {enc : TypeId × Value → H} {P : Program} {W : World} {M : Mem} {bk : DataW H → Nat} {ba : List (DataW H) → Nat}
def Reads (M : Mem) (W : World) : Prop := ∀ b o v, W.cell? ⟨b, o, none⟩ = some v → M b o v
def Rd (enc : TypeId × Value → H) (P : Program) (W : World) (M : Mem) (bk : DataW H → Nat) (t : TypeId) (n : Nat) {X : Type} (f : X → List D) (Q : X → Prop) : Prop :=
 ∀ (fuel : Nat) (cs : List Value) (x : DataW H × List MemPlace), DataW.trod enc P W 0 (fun _ => true) true fuel t cs = some x → bk x.1 ≤ 1048576 → cs.length = n ∧ ∃ y : X, RelC M (f y) cs ∧ Q y
theorem Rd.map {t : TypeId} {n : Nat} {X Y : Type} {f : X → List D} {Q : X → Prop} (g : X → Y) {f' : Y → List D} {Q' : Y → Prop} (h : Rd enc P W M bk t n f Q) (hf : ∀ x, f' (g x) = f x) (hq : ∀ x, Q x → Q' (g x)) : Rd enc P W M bk t n f' Q' := fun fuel cs x hx hb => by
 obtain ⟨h1, y, h2, h3⟩ := h fuel cs x hx hb
 exact ⟨h1, g y, by rw [hf]; exact h2, hq y h3⟩
theorem rd_int {t : TypeId} {k : IntKind} (hu : P.underlying t = some (.int k)) : Rd enc P W M bk t 1 (fun n : Int => [.lit (.int k n)]) (fun n => (Lit.int k n).wf = true) := fun fuel cs x hx _ => by
 obtain ⟨n, rfl, _, h⟩ := DataW.trod_int hu hx
 exact ⟨rfl, n, by simp [RelC, D.one, Rel, Value.oneCell'], h⟩
theorem arg_one {t : TypeId} {X : Type} {f : X → D} {Q : X → Prop} (h : Rd enc P W M bk t 1 (fun y => [f y]) Q) {v : Value} {d : DataW H} {ps : List MemPlace} (hv : v.cells = #[v]) (hd : DataW.Trod enc P W 0 (fun _ => true) true t v d ps) (hb : bk d ≤ 1048576) : ∃ y : X, Rel M (f y) v ∧ Q y := by
 obtain ⟨fuel, hf⟩ := hd
 rw [hv] at hf
 obtain ⟨_, y, h1, h2⟩ := h fuel _ (d, ps) hf hb
 simp only [RelC] at h1
 obtain ⟨x, r, e, _, h3, _⟩ := h1
 cases e
 exact ⟨y, h3, h2⟩
theorem cells_int {r : Reach} {base : Nat} {t : TypeId} {k : IntKind} (hu : P.underlying t = some (.int k)) {v : Value} (hval : Value.okWide P W r base t v) : v.cells = #[v] := by
 obtain ⟨n, rfl⟩ := okWide_int hu hval; rfl
theorem trodAll_below (hl : laidOutB P = true) {W W' : World} (hb : Below W.heap.size W W') : ∀ {ts : List TypeId} {vs : List Value} {ds : List (DataW H)} {ps : List MemPlace}, (ts.all fun t => P.readableRec t && decide (t < P.types.size)) = true → DataW.TrodAll enc P W 0 (fun _ => true) true ts vs ds ps → (∀ x ∈ ps, x.block < W.heap.size) → DataW.TrodAll enc P W' 0 (fun b => decide (b < W.heap.size)) true ts vs ds ps
 | [], vs, ds, ps, _, h, _ => by
  obtain ⟨rfl, rfl, rfl⟩ := trodAll_nil h
  exact trodAll_mk0
 | t :: ts, vs, ds, ps, ht, h, hp => by
  obtain ⟨v, vs', d, ds', p, q, rfl, rfl, rfl, h1, h2⟩ := trodAll_cons h
  simp only [List.all_cons, Bool.and_eq_true, decide_eq_true_eq] at ht
  exact trodAll_cons_mk (Below.trod hl ht.1.1 ht.1.2 h1 hb fun x hx => hp x (by simp [hx])) (trodAll_below hl hb (by simpa using ht.2) h2 fun x hx => hp x (by simp [hx]))
theorem law_post {f : Func} {s : ChangeSpec} {W W' : World} {args : Array Value} {ds gs : List (DataW H)} {before : List MemPlace} {tb : TypeId} (hl : laidOutB P = true) (hr : (f.params.toList.all fun t => P.readableRec t && decide (t < P.types.size)) = true)
  (hvars : s.vars = []) (hfn : ∀ ds : List (DataW H), ds.length = f.params.size → s.fn H ds = { results := [.lit (.bool true)], args := ds }) (hres : f.resultTypes = #[tb]) (hb : P.underlying tb = some .bool) (hW : DataW.Whole enc P f.params.toList s.vars false W args.toList ds gs before) (hE : Ext W W') :
  s.post enc P f false true false false W args (.bool true) W' := by
 have hW' := hW
 obtain ⟨p, q, hA, hV, rfl, _, _⟩ := hW
 have hV' := hV
 rw [hvars] at hV'
 obtain ⟨rfl, rfl⟩ := trodVars_none hV'
 have hB : Below W.heap.size W W' := ⟨hE.os, hE.tape, hE.output, hE.size, hE.keep⟩
 have hlen : ∀ {ts : List TypeId} {vs : List Value} {ds : List (DataW H)} {ps : List MemPlace}, DataW.TrodAll enc P W 0 (fun _ => true) true ts vs ds ps → ds.length = ts.length := by
  intro ts
  induction ts with
  | nil => intro vs ds ps h; obtain ⟨_, rfl, _⟩ := trodAll_nil h; rfl
  | cons t ts ih => intro vs ds ps h; obtain ⟨v, vs', d, ds', p, q, rfl, rfl, rfl, _, h2⟩ := trodAll_cons h; simp [ih h2]
 have hf := hfn ds (by rw [hlen hA]; simp)
 refine ⟨ds, [], p ++ [], [], p, [], hW', ?_, ?_, ?_, hB.frame _, fun h => by cases h⟩
 ·rw [List.append_nil, hf, hres]
  exact trodAll_mk1 (shut_bool hb true)
 ·rw [List.append_nil, hf]
  exact trodAll_below hl hB hr hA fun x hx => by simpa using hW'.lt x (by simp [hx])
 ·rw [List.append_nil, hf, hvars]; rfl
end
end Go.VM
namespace Go.VM.Tryz
open Go.Proofs Go.Proofs.YthegffpdongaoaaGreat Go.RowKit Go.ChangeShapes
set_option linter.unusedVariables false
theorem bulkOk {H : Type} : BulkOk (H := H) Rows.uptoBulk Rows.uptoBulkAll where
 slice e s := by simp only [Rows.uptoBulk]; omega
 agg e := by simp only [Rows.uptoBulk]; omega
 mem d l h := by
  induction l with
  | nil => cases h
  | cons x r ih =>
   simp only [Rows.uptoBulkAll]
   rcases List.mem_cons.1 h with rfl | h
   ·omega
   ·have := ih h; omega
 len l := by
  induction l with
  | nil => simp
  | cons x r ih =>
   have : 1 ≤ Rows.uptoBulk x := by
    cases x with
    | lit l => cases l <;> simp [Rows.uptoBulk]
    | nil => simp [Rows.uptoBulk]
    | ptr d => simp [Rows.uptoBulk]
    | slice elems spare => simp [Rows.uptoBulk]
    | agg parts => simp [Rows.uptoBulk]
    | iface t d => simp [Rows.uptoBulk]
    | map entries => simp [Rows.uptoBulk]
    | held h => simp [Rows.uptoBulk]
   simp only [Rows.uptoBulkAll, List.length_cons]; omega
section
variable {H : Type} {enc : TypeId × Value → H} {W : World} {M : Mem} (hM : Reads M W)
theorem rdI : Rd enc Tryz.prog W M Rows.uptoBulk 3 1 (fun n : Int => [I n]) (fun _ => True) := (rd_int Tryz.underlying3).map (fun n => n) (fun _ => rfl) (fun _ _ => trivial)
include hM
end
theorem own : ownKnob Tryz.prog.godebug = none := by kernel_rfl
theorem laidOut : laidOutB Tryz.prog = true := by kernel_rfl
theorem reads_memA (W : World) : Reads (memA (fun _ => False) W) W := fun b o v h => ⟨id, h⟩
set_option maxRecDepth 100000 in
theorem contract8 (H : Type) (enc : TypeId × Value → H) (W : World) (base : Nat) (args : Array Value) (ds gs : List (DataW H)) (before : List MemPlace)
  (hval : ∀ (j : Nat) t v, Tryz.f8.params[j]? = some t → args[j]? = some v → Value.okWide Tryz.prog W .any base t v)
  (hW : DataW.Whole enc Tryz.prog Tryz.f8.params.toList Rows.bargainSettlingSpec.vars false W args.toList ds gs before) (hk : Rows.uptoSmall H (ds ++ gs) = true) :
  Calls Tryz.prog 8 args W fun e W' => ∃ v, e = .returned v ∧ Rows.bargainSettlingSpec.post enc Tryz.prog Tryz.f8 false true false false W args v W' := by
 have hW' := hW
 obtain ⟨p, q, hA0, hV, rfl, hfz, hnd⟩ := hW
 obtain ⟨rfl, rfl⟩ := trodVars_none hV
 have hA : DataW.TrodAll enc Tryz.prog W 0 (fun _ => true) true Tryz.f8.params.toList args.toList ds p := hA0
 rw [Tryz.params8] at hA hval
 clear hA0
 obtain ⟨v0, vs0, d0, ds0, p0, q0, hargs, rfl, rfl, h0, r0⟩ := trodAll_cons hA
 obtain ⟨v1, vs1, d1, ds1, p1, q1, rfl, rfl, rfl, h1, r1⟩ := trodAll_cons r0
 obtain ⟨v2, vs2, d2, ds2, p2, q2, rfl, rfl, rfl, h2, r2⟩ := trodAll_cons r1
 obtain ⟨rfl, rfl, rfl⟩ := trodAll_nil r2
 obtain rfl : args = #[v0, v1, v2] := by cases args; simp_all
 have hbulk : ∀ d ∈ [d0, d1, d2], Rows.uptoBulk d ≤ 1048576 := fun d hd => by
  have h1 := bulkOk.mem d _ hd
  have h2 := of_decide_eq_true hk
  rw [List.append_nil] at h2
  exact Nat.le_trans h1 h2
 have hM := reads_memA W
 obtain ⟨y0, z0, q0⟩ := arg_one rdI (cells_int Tryz.underlying3 (hval 0 3 v0 rfl rfl)) h0 (hbulk _ (by simp))
 obtain ⟨y1, z1, q1⟩ := arg_one rdI (cells_int Tryz.underlying3 (hval 1 3 v1 rfl rfl)) h1 (hbulk _ (by simp))
 obtain ⟨y2, z2, q2⟩ := arg_one rdI (cells_int Tryz.underlying3 (hval 2 3 v2 rfl rfl)) h2 (hbulk _ (by simp))
 refine (((kLaw8_ok y0 y1 y2 true (law8_true y0 y1 y2)).2 (fun _ => False) W [v0, v1, v2] (fun _ h => h.elim) ⟨_, _, rfl, z0, _, _, rfl, z1, _, _, rfl, z2, rfl⟩)).mono fun e W' ⟨v, he, hr, hE⟩ => ?_
 simp only [B, Rel] at hr
 subst hr
 refine ⟨_, he, law_post (P := Tryz.prog) (f := Tryz.f8) (s := Rows.bargainSettlingSpec) (tb := 4) laidOut (by kernel_rfl) rfl (fun ds hd => ?_) rfl Tryz.underlying4 hW' hE⟩
 have hd : ds.length = 3 := hd
 match ds, hd with
 | [a0, a1, a2], _ => rfl
set_option maxRecDepth 100000 in
theorem lifted8 (os : Os) (started : os.Started) (H : Type) (enc : TypeId × Value → H) (F : Stop.Interp) :
  ReturnsInHanded {} Tryz.checked os 8 .any ((Rows.OpenSpec.upto Rows.bargainSettlingSpec).pre6 enc Tryz.prog Tryz.f8 Rows.bargainSettlingUptoRow.domain false) (((Rows.OpenSpec.upto Rows.bargainSettlingSpec).at F).post enc Tryz.prog Tryz.f8 false true false false) := by
 refine returnsInHanded_of_cond (C := Tryz.checked) (s := Rows.OpenSpec.upto Rows.bargainSettlingSpec) (k := Rows.uptoSmall) rfl own started (by kernel_rfl) Tryz.func8
  (OpenSpec.witness (enc := enc) (C := Tryz.checked) (s := Rows.OpenSpec.upto Rows.bargainSettlingSpec) (k := Rows.uptoSmall) rfl false ⟨#[], #[.int .i64 0, .int .i64 0, .int .i64 0], []⟩ 8 (by kernel_rfl) (by kernel_rfl) (by kernel_rfl)
   (x := ([.lit (.int .i64 0), .lit (.int .i64 0), .lit (.int .i64 0)], [], [])) (by kernel_rfl) rfl (by kernel_rfl)) ?_
 intro W base args ds gs before hval hW _ hk _
 exact contract8 H enc W base args ds gs before hval hW hk
theorem over8 : Rows.bargainSettlingUptoRow.holds Tryz.pinned (Rows.OpenSpec.upto Rows.bargainSettlingSpec) :=
 OpenClaim.holds_of_cond 8 Tryz.f8 rfl rfl rfl rfl rfl rfl rfl ⟨rfl, rfl, rfl, rfl, rfl⟩ rfl rfl rfl rfl rfl (by kernel_rfl) Tryz.func8 (by kernel_rfl)
  (of_decide_eq_true (by kernel_rfl)) (by unfold Func.isWrapper; first | (rw [if_pos (by decide +kernel)]; kernel_rfl) | (rw [if_neg (by decide +kernel)]; exact ⟨rfl, rfl⟩))
  (fun os started H enc _ F => lifted8 os started H enc F)
theorem proved8 : Rows.BargainSettlingUptoSaid := over8
end Go.VM.Tryz
namespace Go.Proofs.YthegffpdongaoaaGreat
theorem holds : Rows.BargainSettlingUptoSaid := Go.VM.Tryz.proved8
end Go.Proofs.YthegffpdongaoaaGreat
