/- Packed of several texts. -/
import Derived.Test.YtbbbflnnbbaamaaGreatDoorH30
import Derived.Test.YtbbbflnnbbaamaaGreatDoorH31
import Derived.Test.YtbbbflnnbbaamaaGreatDoorH32
import Derived.Test.YtbbbflnnbbaamaaGreatDoorH33
import Derived.Test.YtbbbflnnbbaamaaGreatDoorH13
namespace Go.Proofs.YtbbbflnnbbaamaaGreatDoor.PK
open Go.RowKit Go.Shelf
attribute [local go_sem] Oper.semAt_some

theorem range_test2 {g : Operand} {p s : Tmp} {assign body : Code} {Q : Exit → Act → World → Prop} {a : Act} {w : World} (F : Fun) (A : FunA) (E : Nat → Nat → InsA) (Bs r : Nat) (v v0 : Value) (tr : TypeId) (P : Nat → Prop)
  (hg : a.eval g = .func (.func 102) #[] #[.pointer (some ⟨Bs, 0, none⟩)]) (hbl : F.bs.length ≤ 1000) (hbn : ∀ k, k < F.bs.length → (atBk F.bs k).length ≤ 1000) (hpl : F.ps.length ≤ 1000)
  (hE : BksIn w A.ba F.bs E) (hBs : Bs < w.heap.size) (hB0 : w.cell? ⟨Bs, 0, none⟩ = some (.slice A.pa F.ps.length A.pc)) (hB3 : w.cell? ⟨Bs, 3, none⟩ = some (.slice A.ba F.bs.length A.bc))
  (hr : w.heap[r]? = some (.cells #[v0] tr (0, 0)))
  (hass : ∀ (l k : Nat) (W : World) (K : Act → World → Prop), K { tmps := (a.tmps.setIfInBounds p (encX F E k)).setIfInBounds s (.pointer (some ⟨W.heap.size, 0, none⟩)), defers := [] }
    (W.alloc (.cells #[.int .i64 (xI F k).op, .int .i64 (xI F k).wd, .int .i64 (xI F k).fl, .slice (eI F E k).aa (xI F k).ar.length (eI F E k).ca, .int .u32 (xI F k).im, .slice (eI F E k).ta (xI F k).tt.length (eI F E k).ct, .int .i64 ((F.ps.length : Int) + k), .int .i64 (locI F.bs k).1, .int .i64 (locI F.bs k).2] 119)) →
   assign.wpIn (Fence.wide.inRound l) 1 Tryz.prog (Exit.then K (fun _ _ _ => False)) { tmps := a.tmps.setIfInBounds p (encX F E k), defers := [] } W)
  (hbody : ∀ (l k : Nat) (W : World) (Bx : Nat), Below w.heap.size w W → (∀ j, j < k → P j) → k < sumI F.bs F.bs.length → w.heap.size ≤ Bx → XAt W Bx (xI F k) (eI F E k) ((F.ps.length : Int) + k) (locI F.bs k).1 (locI F.bs k).2 →
   body.wpIn (Fence.wide.inRound l) 1 Tryz.prog (postT r v (P k) W) { tmps := (a.tmps.setIfInBounds p (encX F E k)).setIfInBounds s (.pointer (some ⟨Bx, 0, none⟩)), defers := [] } W)
  (hdone : ∀ (D : Nat) (W : World), w.heap.size ≤ D → Below w.heap.size w W → (∀ k, k < sumI F.bs F.bs.length → P k) → W.heap[D]? = some (.deferred (some [])) → Q .normal { a with defers := { target := .collected D, args := #[] } :: a.defers } W)
  (hstop : ∀ (D k : Nat) (W : World), w.heap.size ≤ D → k < sumI F.bs F.bs.length → ¬ P k → Save r w W → W.cell? ⟨r, 0, none⟩ = some v → W.heap[D]? = some (.deferred (some [])) → Code.ret.wpIn Fence.wide 3 Tryz.prog Q { a with defers := { target := .collected D, args := #[] } :: a.defers } W) :
  (Code.rangeFunc g #[p] assign body).wpIn Fence.wide 3 Tryz.prog Q a w := by
 have hrl := lt_of_block hr
 refine range_all F A E Bs hg hbl hbn hpl w (Below.refl _ _) hE hBs hB0 hB3 (fun k W => Below w.heap.size w W ∧ ∀ j, j < k → P j) (fun c _ W => c = .ret ∧ (∃ j, j < sumI F.bs F.bs.length ∧ ¬ P j) ∧ Save r w W ∧ W.cell? ⟨r, 0, none⟩ = some v)
  (fun k A' A'' ht h => ⟨ht.below h.1 (Nat.le_refl _) h.1.size, h.2⟩) (fun c k A' A'' ht h => ⟨h.1, h.2.1, h.2.2.1.trans_turn ht, ht.cell h.2.2.2⟩) ⟨Below.refl _ _, fun j hj => absurd hj (Nat.not_lt_zero _)⟩ (fun k W h => h.1.size) hass ?_ ?_ ?_
 ·intro l k W Bx hl hI hk hBx hx
  refine wpIn_mono (hbody l k W Bx hI.1 hI.2 hk hBx hx) ?_
  intro e a3 W3 hp
  match e, hp with
  | .normal, ⟨h1, h2⟩ =>
   refine ⟨keeps_below h1, Kp.of_below h1 hI.1.size (Nat.lt_of_lt_of_le hBs hI.1.size), hI.1.trans (h1.mono hI.1.size), fun j hj => ?_⟩
   by_cases e : j = k
   ·subst e; exact h2
   ·exact hI.2 j (by omega)
  | .ret, ⟨⟨W'', h1, h2⟩, h3⟩ =>
   subst h2
   have hb := hI.1.trans (h1.mono hI.1.size)
   have hr2 := (hb.block _ hrl).trans hr
   refine ⟨(keeps_below h1).trans ((KeepsOthers.setCell _ _ _).from _), rfl, ⟨k, hk, h3⟩, (Save.of_below hb).trans (Save.set r 0 W'' v), ?_⟩
   exact cell_of_row _ _ 0 _ _ _ (heap_setCell_same W'' r 0 _ _ v hr2)
 ·intro D W hD hI hK
  exact hdone D W hD hI.1 hI.2 hK
 ·intro D c k W hD _ hI hK
  obtain ⟨rfl, ⟨j, hj, hp⟩, h1, h2⟩ := hI
  exact hstop D j W hD hj hp h1 h2 hK
theorem results_cell_int {fn : Func} {p : Tmp} (h : fn.results = #[.cell p 25]) (tmps : Array Value) (w : World) (g : Nat) (n : Int)
  (hp : tmps.getD p undef = .pointer (some ⟨g, 0, none⟩)) (hc : w.cell? ⟨g, 0, none⟩ = some (.int .i64 n)) : (results fn tmps).run Tryz.prog w = .ok (.int .i64 n) w := by
 have hp' : tmps[p]?.getD undef = .pointer (some ⟨g, 0, none⟩) := by simpa using hp
 simp [results, h, hp', asAddr, loadVar, hc, go_sem]
def marksI (Ds : List Nat) : List Deferred := Ds.map fun D => { target := .collected D, args := #[] }
theorem leave_int {fn : Func} {tmps : Array Value} {R : Ending → World → Prop} {g : Nat} {p : Tmp} {n : Int} (base : World) (h : fn.results = #[.cell p 25]) (hp : tmps.getD p undef = .pointer (some ⟨g, 0, none⟩)) (hR : ∀ W', Below base.heap.size base W' → R (.returned (.int .i64 n)) W') :
  ∀ (Ds : List Nat) (W : World), Ds.Nodup → (∀ D, D ∈ Ds → base.heap.size ≤ D ∧ W.heap[D]? = some (.deferred (some []))) → W.cell? ⟨g, 0, none⟩ = some (.int .i64 n) → Below base.heap.size base W → LeavesInM Fence.wide 3 Tryz.prog fn tmps R (marksI Ds) .returning W
 | [], W, _, _, hc, hb => ⟨_, results_cell_int h tmps W g n hp hc, hR W hb⟩
 | D :: Ds, W, hn, hd, hc, hb => by
  obtain ⟨hB, hD⟩ := hd D (by simp)
  have hnd := List.nodup_cons.1 hn
  refine ⟨by simp, .inl ⟨D, _, rfl, run_takeDeferred hD, leave_int base h hp hR Ds _ hnd.2 (fun E hE => ?_) (cell_put _ hD hc) (hb.trans (belowK_b (w := base) (Nat.le_refl _) W D _ _ hB hD rfl rfl))⟩⟩
  obtain ⟨h1, h2⟩ := hd E (by simp [hE])
  exact ⟨h1, (World.putObj_heap_other (fun e => hnd.1 (by rw [← e]; exact hE))).trans h2⟩
def ErrPost (n : Int) (w : World) (e : Ending) (w' : World) : Prop := e = .returned (.int .i64 n) ∧ Below w.heap.size w w'
theorem shp_all {F : Fun} (h : ∀ k, k < sumI F.bs F.bs.length → shapeB F (xI F k) = true) : shpP F := fun b i hb hi => by
 have h4 := sumI_mono hb
 have := h (sumI F.bs b + i) (by omega)
 unfold xI at this
 rwa [locI_at F.bs b i hb hi] at this
theorem shp_not {F : Fun} {k : Nat} (hk : k < sumI F.bs F.bs.length) (h : ¬ shapeB F (xI F k) = true) : ¬ shpP F := fun hs => by
 obtain ⟨l1, l2, _, _⟩ := locI_is F.bs k hk
 exact h (hs _ _ l1 l2)
def tyP (F : Fun) (x : Ins) : Prop := ityB (clsI x.op) x.wd F.ret (ksI (kdsI F) x) = true
theorem ty_all {F : Fun} (hs : shpP F) (hr : 0 ≤ F.ret) (h : ∀ k, k < sumI F.bs F.bs.length → tyP F (xI F k)) : typP F := fun b i hb hi => by
 have h4 := sumI_mono hb
 have := h (sumI F.bs b + i) (by omega)
 unfold xI at this
 rw [locI_at F.bs b i hb hi] at this
 rw [ty_eq F _ _ hr (hs b i hb hi) (ksI_len _ _)]
 exact this
theorem ty_not {F : Fun} (hs : shpP F) (hr : 0 ≤ F.ret) {k : Nat} (hk : k < sumI F.bs F.bs.length) (h : ¬ tyP F (xI F k)) : ¬ typP F := fun ht => by
 obtain ⟨l1, l2, _, _⟩ := locI_is F.bs k hk
 have h2 := ht _ _ l1 l2
 rw [ty_eq F _ _ hr (hs _ _ l1 l2) (ksI_len _ _)] at h2
 exact h h2
theorem head_ret {F : Fun} (h : headB F = true) : 0 ≤ F.ret := by
 unfold headB at h
 simp only [Bool.and_eq_true, decide_eq_true_eq] at h
 exact h.1.2.1
theorem def_set {W : World} {D r : Nat} {cs : Array Value} {t : TypeId} {fz : Nat × Nat} (v : Value) (hK : W.heap[D]? = some (.deferred (some []))) (hr : W.heap[r]? = some (.cells cs t fz)) : (W.setCell ⟨r, 0, none⟩ v).heap[D]? = some (.deferred (some [])) := by
 rw [Below.heap_setCell _ _ _ _ (fun e => by
  have e : D = r := e
  rw [e, hr] at hK; cases hK)]; exact hK
set_option maxRecDepth 100000 in
set_option maxHeartbeats 4000000 in
theorem Validate_ir_any (F : Fun) (A : FunA) (w : World) (hin : FunIn w F A) (hok : FunOk F) :
  Calls Tryz.prog 36 #[funV F A] w (ErrPost (errF F) w) := by
 obtain ⟨pa, pc, sa, sc, ba, bc⟩ := A
 have hs := hok.sm
 have hal : Below w.heap.size w ((w.alloc (.cells #[.slice pa F.ps.length pc, .int .i64 F.ret, .slice sa F.sl.length sc, .slice ba F.bs.length bc] 31)).alloc (.cells #[.int .i64 0] 25)) := ((Below.refl _ _).alloc (Nat.le_refl _) _).alloc (by simp) _
 have HI := Lib.hid (hin.below hal)
 have hr1 : ((w.alloc (.cells #[.slice pa F.ps.length pc, .int .i64 F.ret, .slice sa F.sl.length sc, .slice ba F.bs.length bc] 31)).alloc (.cells #[.int .i64 0] 25)).heap[w.heap.size + 1]? = some (.cells #[.int .i64 0] 25 : Obj) := by
  have := heap_alloc_new (w.alloc (.cells #[.slice pa F.ps.length pc, .int .i64 F.ret, .slice sa F.sl.length sc, .slice ba F.bs.length bc] 31)) (.cells #[.int .i64 0] 25)
  simpa using this
 have hr0 : ((w.alloc (.cells #[.slice pa F.ps.length pc, .int .i64 F.ret, .slice sa F.sl.length sc, .slice ba F.bs.length bc] 31)).alloc (.cells #[.int .i64 0] 25)).heap[w.heap.size]? = some ((.cells #[.slice pa F.ps.length pc, .int .i64 F.ret, .slice sa F.sl.length sc, .slice ba F.bs.length bc] 31) : Obj) := by
  rw [Below.heap_alloc _ _ _ (by simp)]
  exact heap_alloc_new _ _
 have hz1 : ((w.alloc (.cells #[.slice pa F.ps.length pc, .int .i64 F.ret, .slice sa F.sl.length sc, .slice ba F.bs.length bc] 31)).alloc (.cells #[.int .i64 0] 25)).heap.size = w.heap.size + 2 := by simp
 have HB0 := Lib.hid hal
 have HR0 := Lib.hid hr0; have HR1 := Lib.hid hr1; have HZ1 := Lib.hid hz1
 have g0 := cell_of_row _ _ 0 _ _ _ hr0; have g1 := cell_of_row _ _ 1 _ _ _ hr0; have g2 := cell_of_row _ _ 2 _ _ _ hr0; have g3 := cell_of_row _ _ 3 _ _ _ hr0
 have HG0 := Lib.hid g0; have HG1 := Lib.hid g1; have HG2 := Lib.hid g2; have HG3 := Lib.hid g3
 have HSm := Lib.hid hs; have HOk := Lib.hid hok
 have HSz := Lib.hid (fun u (h : FunIn u F ⟨pa, pc, sa, sc, ba, bc⟩) => sizeI_any F ⟨pa, pc, sa, sc, ba, bc⟩ u h.bs (by have := hs.bs; omega) (fun k hk => Nat.le_trans (hs.ins k hk) (by omega)))
 have HHd := Lib.hid (fun u (h : FunIn u F ⟨pa, pc, sa, sc, ba, bc⟩) => isHead_any F ⟨pa, pc, sa, sc, ba, bc⟩ u h.ps h.sl (by have := hs.ps; omega) (by have := hs.sl; omega))
 have HAl := Lib.hid (all_any F ⟨pa, pc, sa, sc, ba, bc⟩)
 have HIs := Lib.hid (fun (x : Ins) aa ta ca ct u ha ht him hfl htl => isShaped_any F ⟨pa, pc, sa, sc, ba, bc⟩ x aa ta ca ct u ha ht him (by have := hs.sl; omega) hfl htl)
 have HLd := Lib.hid (fun u (h : FunIn u F ⟨pa, pc, sa, sc, ba, bc⟩) hsh h1 h2 => isLaid_any F ⟨pa, pc, sa, sc, ba, bc⟩ u h hs hsh h1 h2)
 have HKi := Lib.hid (fun E u (hE : BksIn u ba F.bs E) (h : IntsIn u pa F.ps) => kinds_any F ⟨pa, pc, sa, sc, ba, bc⟩ E u hE h (by have := hs.bs; omega) (fun k hk => Nat.le_trans (hs.ins k hk) (by omega)) (by have := hs.ps; omega))
 have HTy := Lib.hid (fun (x : Ins) aa ta ca ct ka kc u hia hik har hsh => typed_any F ⟨pa, pc, sa, sc, ba, bc⟩ x aa ta ca ct (kdsI F) ka kc u hia hik har hsh)
 have HDf := Lib.hid (fun u (h : FunIn u F ⟨pa, pc, sa, sc, ba, bc⟩) h3 h4 h5 h1 h2 => isDefined_any F ⟨pa, pc, sa, sc, ba, bc⟩ u h hs h3 h4 h5 h1 h2)
 have HLr : Hid ((3 < F.ps.length ∨ 2 < F.sl.length ∨ F.bs.length < 1 ∨ 10 < F.bs.length ∨ 40 < sumI F.bs F.bs.length) → errF F = 3) := Lib.hid fun h => errF_lrg (by
  unfold lrgB; simp only [Bool.or_eq_true, decide_eq_true_eq]; exact h)
 have HLo : Hid (¬ (3 < F.ps.length ∨ 2 < F.sl.length ∨ F.bs.length < 1 ∨ 10 < F.bs.length ∨ 40 < sumI F.bs F.bs.length) → lrgB F = false) := Lib.hid fun h => by
  rw [Bool.eq_false_iff]; intro h2; apply h
  unfold lrgB at h2; simpa only [Bool.or_eq_true, decide_eq_true_eq] using h2
 have HPP : Hid (∀ n W', errF F = n → Below w.heap.size w W' → ErrPost (errF F) w (.returned (.int .i64 n)) W') := Lib.hid fun n W' h1 h2 => ⟨by rw [h1], h2⟩
 have HSu := Lib.hid (hs.sum F.bs.length (Nat.le_refl _))
 have hsb := hs.bs
 generalize ErrPost (errF F) w = PP at *
 clear hin hal hr0 hr1 hs hok hz1
 simp only [funV, funC, insV] at HSz HHd HAl HIs HLd HKi HTy HDf ⊢
 generalize hn : F.bs.length = n at *
 have HN := Lib.hid hn; clear hn
 generalize hnp : F.ps.length = np at *
 have HNp := Lib.hid hnp; clear hnp
 generalize hns : F.sl.length = ns at *
 have HNs := Lib.hid hns; clear hns
 generalize hN : sumI F.bs n = N at *
 have HNN := Lib.hid hN; clear hN
 refine (callsIn_wide (n := 3)).1 ?_
 refine callsIn_of_wp_marks Tryz.func36 rfl trivial ?_ rfl
 simp only [Tryz.ntmps36, List.size_toArray, List.length_cons, List.length_nil, Nat.reduceAdd, Nat.reduceSub, Array.replicate_succ, Array.replicate_zero, List.push_toArray, List.append_toArray, List.nil_append, List.cons_append]
 refine wpIn_wide.2 ?_
 go_upto_region 1 with fail
 generalize ((w.alloc _).alloc _) = w1 at *
 have r1 := HR1.out
 have v0f := frozen_of_row w1 (w.heap.size + 1) 0 _ _ r1
 have v0 := cell_of_row w1 (w.heap.size + 1) 0 _ _ _ r1
 by_cases a1 : 3 < np
 ·have HE := Lib.hid (HPP.out 3 (w1.setCell ⟨w.heap.size + 1, 0, none⟩ (.int .i64 3)) (HLr.out (.inl a1)) (HB0.out.setCell (by show w.heap.size ≤ w.heap.size + 1; omega) _))
  go_wp2_with fail
  exact ⟨_, results_cell_int rfl _ _ (w.heap.size + 1) 3 rfl (cell_of_row _ _ 0 _ _ _ (heap_setCell_same w1 _ 0 _ _ _ r1)), HE.out⟩
 by_cases a2 : 2 < ns
 ·have HE := Lib.hid (HPP.out 3 (w1.setCell ⟨w.heap.size + 1, 0, none⟩ (.int .i64 3)) (HLr.out (.inr (.inl a2))) (HB0.out.setCell (by show w.heap.size ≤ w.heap.size + 1; omega) _))
  go_wp2_with fail
  exact ⟨_, results_cell_int rfl _ _ (w.heap.size + 1) 3 rfl (cell_of_row _ _ 0 _ _ _ (heap_setCell_same w1 _ 0 _ _ _ r1)), HE.out⟩
 by_cases a3 : n < 1
 ·have HE := Lib.hid (HPP.out 3 (w1.setCell ⟨w.heap.size + 1, 0, none⟩ (.int .i64 3)) (HLr.out (.inr (.inr (.inl a3)))) (HB0.out.setCell (by show w.heap.size ≤ w.heap.size + 1; omega) _))
  go_wp2_with fail
  exact ⟨_, results_cell_int rfl _ _ (w.heap.size + 1) 3 rfl (cell_of_row _ _ 0 _ _ _ (heap_setCell_same w1 _ 0 _ _ _ r1)), HE.out⟩
 by_cases a4 : 10 < n
 ·have HE := Lib.hid (HPP.out 3 (w1.setCell ⟨w.heap.size + 1, 0, none⟩ (.int .i64 3)) (HLr.out (.inr (.inr (.inr (.inl a4))))) (HB0.out.setCell (by show w.heap.size ≤ w.heap.size + 1; omega) _))
  go_wp2_with fail
  exact ⟨_, results_cell_int rfl _ _ (w.heap.size + 1) 3 rfl (cell_of_row _ _ 0 _ _ _ (heap_setCell_same w1 _ 0 _ _ _ r1)), HE.out⟩
 have HSz1 := Lib.hid (HSz.out _ HI.out)
 by_cases a5 : 40 < N
 ·have HE := Lib.hid (HPP.out 3 (w1.setCell ⟨w.heap.size + 1, 0, none⟩ (.int .i64 3)) (HLr.out (.inr (.inr (.inr (.inr a5))))) (HB0.out.setCell (by show w.heap.size ≤ w.heap.size + 1; omega) _))
  go_wp2_with fail
  refine HSz1.out.mono ?_; rintro e w2 ⟨rfl, hb2⟩
  have HB2 := Lib.hid hb2
  have HR2 := Lib.hid ((hb2.block _ (lt_of_block HR1.out)).trans HR1.out)
  have a5i : (40 : Int) < (N : Int) := by omega
  clear hb2 g0 g1 g2 g3 v0 v0f r1 HE
  have hcond := HLr.out (.inr (.inr (.inr (.inr a5))))
  have HCond := Lib.hid hcond; clear hcond
  have rX := HR2.out
  have vXf := frozen_of_row w2 (w.heap.size + 1) 0 _ _ rX
  have vX := cell_of_row w2 (w.heap.size + 1) 0 _ _ _ rX
  have HBX := Lib.hid ((HB0.out.trans (HB2.out.mono HB0.out.size)).setCell (p := ⟨w.heap.size + 1, 0, none⟩) (Nat.le_succ _) (.int .i64 3))
  go_wp2_with fail
  exact ⟨_, results_cell_int rfl _ _ (w.heap.size + 1) 3 rfl (cell_of_row _ _ 0 _ _ _ (heap_setCell_same w2 _ 0 _ _ _ rX)), HPP.out _ _ HCond.out HBX.out⟩
 have HLg := Lib.hid (HLo.out (by omega))
 have HN10 : Hid (1 ≤ F.bs.length ∧ F.bs.length ≤ 10) := Lib.hid (by rw [HN.out]; omega)
 clear v0 v0f r1
 go_wp2_with fail
 refine HSz1.out.mono ?_; rintro e w2 ⟨rfl, hb2⟩
 have HB2 := Lib.hid hb2
 have HR2 := Lib.hid ((hb2.block _ (lt_of_block HR1.out)).trans HR1.out)
 have a5i : ¬ (40 : Int) < (N : Int) := by omega
 have d0 := keep HG0.out hb2; have d1 := keep HG1.out hb2; have d2 := keep HG2.out hb2; have d3 := keep HG3.out hb2
 have HHd2 := Lib.hid (HHd.out _ (HI.out.below hb2))
 clear hb2 g0 g1 g2 g3
 go_upto_region 3 with fail
 clear a1 a2 a3 a4 a5 a5i
 go_wp2_with fail
 refine HHd2.out.mono ?_; rintro e w3 ⟨rfl, hb3⟩
 have HB3 := Lib.hid (HB2.out.trans (hb3.mono HB2.out.size))
 have HR3 := Lib.hid ((hb3.block _ (lt_of_block HR2.out)).trans HR2.out)
 clear hb3 d0 d1 d2 d3
 generalize hhd : headB F = hd at *
 have HHh := Lib.hid hhd; clear hhd
 cases hd
 ·skip
  have hcond := errF_head (F := F) HLg.out HHh.out
  have HCond := Lib.hid hcond; clear hcond
  have rX := HR3.out
  have vXf := frozen_of_row w3 (w.heap.size + 1) 0 _ _ rX
  have vX := cell_of_row w3 (w.heap.size + 1) 0 _ _ _ rX
  have HBX := Lib.hid ((HB0.out.trans (HB3.out.mono HB0.out.size)).setCell (p := ⟨w.heap.size + 1, 0, none⟩) (Nat.le_succ _) (.int .i64 1))
  go_wp2_with fail
  exact ⟨_, results_cell_int rfl _ _ (w.heap.size + 1) 1 rfl (cell_of_row _ _ 0 _ _ _ (heap_setCell_same w3 _ 0 _ _ _ rX)), HPP.out _ _ HCond.out HBX.out⟩
 have HRet := Lib.hid (head_ret HHh.out)
 have d0 := keep HG0.out HB3.out; have d1 := keep HG1.out HB3.out; have d2 := keep HG2.out HB3.out; have d3 := keep HG3.out HB3.out
 go_wp2_with fail
 refine (HAl.out _).mono ?_; rintro e w4 ⟨rfl, rfl⟩
 clear d0 d1 d2 d3
 go_wp2_with fail
 have hba : Below w3.heap.size w3 (w3.alloc (.cells #[.slice pa np pc, .int .i64 F.ret, .slice sa ns sc, .slice ba n bc] 31)) := (Below.refl _ _).alloc (Nat.le_refl _) _
 have hfn : (w3.alloc (.cells #[.slice pa np pc, .int .i64 F.ret, .slice sa ns sc, .slice ba n bc] 31)).heap[w3.heap.size]? = some ((.cells #[.slice pa np pc, .int .i64 F.ret, .slice sa ns sc, .slice ba n bc] 31) : Obj) := heap_alloc_new _ _
 have HB4 := Lib.hid (HB3.out.trans (hba.mono HB3.out.size))
 have HR4 := Lib.hid ((hba.block _ (lt_of_block HR3.out)).trans HR3.out)
 have hBs : w3.heap.size < (w3.alloc (.cells #[.slice pa np pc, .int .i64 F.ret, .slice sa ns sc, .slice ba n bc] 31)).heap.size := by simp
 clear hba
 generalize w3.alloc _ = w4 at *
 generalize w3.heap.size = Bs at *
 have HIw4 := Lib.hid (HI.out.below HB4.out)
 obtain ⟨E, hE⟩ := HIw4.out.bs.places
 have g0 := cell_of_row _ _ 0 _ _ _ hfn; have g3 := cell_of_row _ _ 3 _ _ _ hfn
 have hbl : F.bs.length ≤ 1000 := by rw [HN.out]; omega
 have hbn : ∀ k, k < F.bs.length → (atBk F.bs k).length ≤ 1000 := fun k hk => Nat.le_trans (HSm.out.ins k hk) (by omega)
 have hpl := HSm.out.ps
 have HE2 := Lib.hid hE
 have HLk := Lib.hid (fun k h => locI_is F.bs k h)
 have HBl := Lib.hid hbl; have HBn := Lib.hid hbn; have HPl := Lib.hid hpl
 refine (wpIn_wide (n := 3)).1 ?_
 refine range_test2 (p := 38) (s := 3) F ⟨pa, pc, sa, sc, ba, bc⟩ E Bs (w.heap.size + 1) (.int .i64 1) (.int .i64 0) 25 (fun k => shapeB F (xI F k) = true) rfl hbl hbn (by omega) hE hBs (by rw [HNp.out]; exact g0) (by rw [HN.out]; exact g3) HR4.out ?assign ?body ?done ?stop
 case assign =>
  intro l k W K hK
  gi_wp2
  exact hK
 case body =>
  intro l k W Bx hbW hP hk hBx hx
  obtain ⟨l1, l2, l3, l4⟩ := HLk.out k hk
  obtain ⟨_, _, _, _, hu1, hu2, hblk⟩ := (HE2.out.below hbW) _ l1
  obtain ⟨_, _, hu3, hxx⟩ := hblk _ l2
  have htt : (xI F k).tt.length ≤ 40 := (HSm.out.ars (locI F.bs k).1 (locI F.bs k).2 l1 l2).2
  have HCt := Lib.hid (HIs.out (xI F k) (eI F E k).aa (eI F E k).ta (eI F E k).ca (eI F E k).ct W hxx.ia hxx.it (HOk.out.im _ _ l1 l2) (HOk.out.fl _ _ l1 l2) (by omega))
  have hBW := HB4.out.trans (hbW.mono HB4.out.size)
  have d0 := keep HG0.out hBW; have d1 := keep HG1.out hBW; have d2 := keep HG2.out hBW; have d3 := keep HG3.out hBW
  have HRw := Lib.hid ((hbW.block _ (lt_of_block HR4.out)).trans HR4.out)
  obtain ⟨x0, x1, x2, x3, x4, x5, x6, x7, x8⟩ := hx.cell
  clear hblk hxx hu1 hu2 hu3 l1 l2 l3 l4 hP hx hbW hBW x6 x7 x8 hk
  generalize shapeB F (xI F k) = sb at *
  generalize xI F k = x at *
  generalize eI F E k = ee at *
  gi_wp2_with fail
  refine ⟨trivial, ?_⟩
  refine (CallsIn.inRound l (callsIn_wide.2 HCt.out)).mono ?_; rintro e w9 ⟨rfl, hb9⟩
  have HB9 := Lib.hid hb9
  have r9 := (hb9.block _ (lt_of_block HRw.out)).trans HRw.out
  have v9f := frozen_of_row w9 (w.heap.size + 1) 0 _ _ r9
  have v9 := cell_of_row w9 (w.heap.size + 1) 0 _ _ _ r9
  clear hb9 x0 x1 x2 x3 x4 x5 d0 d1 d2 d3
  cases sb
  ·gi_wp2_with fail
   exact ⟨⟨_, HB9.out, rfl⟩, by decide⟩
  ·gi_wp2_with fail
   exact ⟨HB9.out, by trivial⟩
 case stop =>
  intro D k W hD hk hp hsv hc hK
  have HCond := Lib.hid (errF_shp HLg.out HHh.out (shp_not hk hp))
  have HKd := Lib.hid hK
  have HDz := Lib.hid (show w.heap.size ≤ D from Nat.le_trans (HB0.out.trans (HB4.out.mono HB0.out.size)).size hD)
  have HWw := Lib.hid ((HB0.out.trans (HB4.out.mono HB0.out.size)).trans (hsv.below (Nat.le_succ _) (HB0.out.trans (HB4.out.mono HB0.out.size)).size))
  have HCc := Lib.hid hc
  clear hk hp hsv hc hK hD
  gi_wp2_with fail
  exact leave_int w rfl rfl (fun W' h => HPP.out _ W' HCond.out h) [D] _ (by simp) (fun D' hD => by
   obtain rfl : D' = D := by simpa using hD
   exact ⟨HDz.out, HKd.out⟩) HCc.out HWw.out
 case done =>
  intro D W hD hbW hall hK
  have HShY := Lib.hid (shp_all hall)
  have HBW := Lib.hid (HB4.out.trans (hbW.mono HB4.out.size))
  have HRW := Lib.hid ((hbW.block _ (lt_of_block HR4.out)).trans HR4.out)
  have HDz := Lib.hid (show w.heap.size ≤ D from Nat.le_trans (HB0.out.trans (HB4.out.mono HB0.out.size)).size hD)
  have HKd := Lib.hid hK
  have d0 := keep HG0.out HBW.out; have d1 := keep HG1.out HBW.out; have d2 := keep HG2.out HBW.out; have d3 := keep HG3.out HBW.out
  have HLdW := Lib.hid (HLd.out W (HI.out.below HBW.out) HShY.out (by rw [← HN.out]; exact HN10.out.1) (by rw [← HN.out]; exact HN10.out.2))
  clear hbW hall hK hD g0 g3 hfn hE
  go_wp2_with fail
  refine HLdW.out.mono ?_; rintro e w5 ⟨⟨lb, rfl, hlb⟩, hb5⟩
  have HB5 := Lib.hid (HBW.out.trans (hb5.mono HBW.out.size))
  have HR5 := Lib.hid ((hb5.block _ (lt_of_block HRW.out)).trans HRW.out)
  have HK5 := Lib.hid ((hb5.block _ (lt_of_block HKd.out)).trans HKd.out)
  have HLb := Lib.hid hlb
  clear hb5 d0 d1 d2 d3 hlb
  cases lb
  ·skip
   have hcond := errF_laid (F := F) HLg.out HHh.out HShY.out (fun h => by have := HLb.out.2 h; cases this)
   have HCond := Lib.hid hcond; clear hcond
   have rX := HR5.out
   have vXf := frozen_of_row w5 (w.heap.size + 1) 0 _ _ rX
   have vX := cell_of_row w5 (w.heap.size + 1) 0 _ _ _ rX
   have HBX := Lib.hid ((HB0.out.trans (HB5.out.mono HB0.out.size)).setCell (p := ⟨w.heap.size + 1, 0, none⟩) (Nat.le_succ _) (.int .i64 7))
   go_wp2_with fail
   exact leave_int w rfl rfl (fun W' h => HPP.out _ W' HCond.out h) [D] _ (by simp) (fun D' hD => by
    obtain rfl : D' = D := by simpa using hD
    exact ⟨HDz.out, def_set _ HK5.out rX⟩) (cell_of_row _ _ 0 _ _ _ (heap_setCell_same w5 _ 0 _ _ _ rX)) HBX.out
  have HLa : Hid (laidP F) := Lib.hid (HLb.out.1 rfl)
  have d0 := keep HG0.out HB5.out; have d1 := keep HG1.out HB5.out; have d2 := keep HG2.out HB5.out; have d3 := keep HG3.out HB5.out
  have HIw5 := Lib.hid (HI.out.below HB5.out)
  obtain ⟨E5, hE5⟩ := HIw5.out.bs.places
  have HKiW := Lib.hid (HKi.out E5 w5 hE5 HIw5.out.ps)
  clear hE5
  go_wp2_with fail
  refine HKiW.out.mono ?_; rintro e w6 ⟨⟨v, rfl, hown⟩, hb6⟩
  obtain ⟨ka, kc, rfl⟩ := owns_shape hown
  have hkd : kdsI F = F.ps ++ wdsI F.bs N := by unfold kdsI; rw [HN.out, HNN.out]
  have hki : IntsIn w6 ka (kdsI F) := by
   have hown2 : w6.ownsRow w5.heap.size 3 1 (.slice ka (np + N) kc) (kdsI F).length (encI (kdsI F)) := by rw [kdsI_len, HN.out, HNN.out, HNp.out, hkd]; exact hown
   obtain ⟨_, _, e, _, h⟩ := ints_of_owns hown2
   simp only [Value.slice.injEq] at e
   obtain ⟨rfl, _, _⟩ := e
   exact h
  have HKl : Hid ((kdsI F).length = np + N) := Lib.hid (by rw [kdsI_len, HN.out, HNN.out, HNp.out])
  clear hkd
  have hba : Below w6.heap.size w6 (w6.alloc (.cells #[.slice ka (np + N) kc] 28)) := (Below.refl _ _).alloc (Nat.le_refl _) _
  have c7 : (w6.alloc (.cells #[.slice ka (np + N) kc] 28)).cell? ⟨w6.heap.size, 0, none⟩ = some (.slice ka (np + N) kc) := cell_of_row _ _ 0 _ _ _ (heap_alloc_new _ _)
  have hb57 := hb6.trans (hba.mono hb6.size)
  have HB7 := Lib.hid (HB5.out.trans (hb57.mono HB5.out.size))
  have HR7 := Lib.hid ((hb57.block _ (lt_of_block HR5.out)).trans HR5.out)
  have HK7 := Lib.hid ((hb57.block _ (lt_of_block HK5.out)).trans HK5.out)
  have HKi7 := Lib.hid (hki.below hba)
  have HC7 := Lib.hid c7
  clear hown hki hba hb57 hb6 d0 d1 d2 d3
  go_upto_region 12 with fail
  generalize w6.alloc _ = w7 at *
  generalize w6.heap.size = q7 at *
  clear c7
  have d0 := keep HG0.out HB7.out; have d1 := keep HG1.out HB7.out; have d2 := keep HG2.out HB7.out; have d3 := keep HG3.out HB7.out
  go_wp2_with fail
  refine (HAl.out _).mono ?_; rintro e w8 ⟨rfl, rfl⟩
  clear d0 d1 d2 d3
  go_wp2_with fail
  have hba : Below w7.heap.size w7 (w7.alloc (.cells #[.slice pa np pc, .int .i64 F.ret, .slice sa ns sc, .slice ba n bc] 31)) := (Below.refl _ _).alloc (Nat.le_refl _) _
  have hfn : (w7.alloc (.cells #[.slice pa np pc, .int .i64 F.ret, .slice sa ns sc, .slice ba n bc] 31)).heap[w7.heap.size]? = some ((.cells #[.slice pa np pc, .int .i64 F.ret, .slice sa ns sc, .slice ba n bc] 31) : Obj) := heap_alloc_new _ _
  have HB8 := Lib.hid (HB7.out.trans (hba.mono HB7.out.size))
  have HR8 := Lib.hid ((hba.block _ (lt_of_block HR7.out)).trans HR7.out)
  have HK8 := Lib.hid ((hba.block _ (lt_of_block HK7.out)).trans HK7.out)
  have HKi8 := Lib.hid (HKi7.out.below hba)
  have HC8 := Lib.hid (keep HC7.out hba)
  have hBs : w7.heap.size < (w7.alloc (.cells #[.slice pa np pc, .int .i64 F.ret, .slice sa ns sc, .slice ba n bc] 31)).heap.size := by simp
  clear hba
  generalize w7.alloc _ = w8 at *
  generalize w7.heap.size = Bs2 at *
  have HIw8 := Lib.hid (HI.out.below HB8.out)
  obtain ⟨E8, hE8⟩ := HIw8.out.bs.places
  have g0 := cell_of_row _ _ 0 _ _ _ hfn; have g3 := cell_of_row _ _ 3 _ _ _ hfn
  have HE8 := Lib.hid hE8
  have HDl := Lib.hid (lt_of_block HK8.out)
  have HDne : Hid (D ≠ w.heap.size + 1) := Lib.hid fun e => by
   have h1 := HK8.out; rw [e, HR8.out] at h1; cases h1
  refine (wpIn_wide (n := 3)).1 ?_
  refine range_test2 (p := 51) (s := 5) F ⟨pa, pc, sa, sc, ba, bc⟩ E8 Bs2 (w.heap.size + 1) (.int .i64 6) (.int .i64 0) 25 (fun k => tyP F (xI F k)) rfl HBl.out HBn.out (by have := HPl.out; omega) hE8 hBs (by rw [HNp.out]; exact g0) (by rw [HN.out]; exact g3) HR8.out ?assign ?body ?done ?stop
  case assign =>
   intro l k W K hK
   gi_wp2
   exact hK
  case body =>
   intro l k W2 Bx hbW hP hk hBx hx
   obtain ⟨l1, l2, l3, l4⟩ := HLk.out k hk
   obtain ⟨_, _, _, _, hu1, hu2, hblk⟩ := (HE8.out.below hbW) _ l1
   obtain ⟨_, _, hu3, hxx⟩ := hblk _ l2
   have har : (xI F k).ar.length ≤ 40 := (HSm.out.ars (locI F.bs k).1 (locI F.bs k).2 l1 l2).1
   have HCt := Lib.hid (HTy.out (xI F k) (eI F E8 k).aa (eI F E8 k).ta (eI F E8 k).ca (eI F E8 k).ct ka kc W2 hxx.ia (HKi8.out.below hbW) har (shape_tos (HShY.out _ _ l1 l2)).2.1)
   rw [HKl.out] at HCt
   have hBW := HB8.out.trans (hbW.mono HB8.out.size)
   have d0 := keep HG0.out hBW; have d1 := keep HG1.out hBW; have d2 := keep HG2.out hBW; have d3 := keep HG3.out hBW
   have c8 := keep HC8.out hbW
   have HRw := Lib.hid ((hbW.block _ (lt_of_block HR8.out)).trans HR8.out)
   obtain ⟨x0, x1, x2, x3, x4, x5, x6, x7, x8⟩ := hx.cell
   have HTp : Hid (tyP F (xI F k) ↔ ityB (clsI (xI F k).op) (xI F k).wd F.ret (ksI (kdsI F) (xI F k)) = true) := Lib.hid Iff.rfl
   clear hblk hxx hu1 hu2 hu3 l1 l2 l3 l4 hP hx hbW hBW x6 x7 x8 hk
   generalize ityB (clsI (xI F k).op) (xI F k).wd F.ret (ksI (kdsI F) (xI F k)) = tb at *
   generalize tyP F (xI F k) = Tp at *
   generalize xI F k = x at *
   generalize eI F E8 k = ee at *
   gi_wp2_with fail
   refine ⟨trivial, ?_⟩
   refine (CallsIn.inRound l (callsIn_wide.2 HCt.out)).mono ?_; rintro e w9 ⟨rfl, hb9⟩
   have HB9 := Lib.hid hb9
   have r9 := (hb9.block _ (lt_of_block HRw.out)).trans HRw.out
   have v9f := frozen_of_row w9 (w.heap.size + 1) 0 _ _ r9
   have v9 := cell_of_row w9 (w.heap.size + 1) 0 _ _ _ r9
   clear hb9 x0 x1 x2 x3 x4 x5 d0 d1 d2 d3 c8
   cases tb
   ·gi_wp2_with fail
    exact ⟨⟨_, HB9.out, rfl⟩, fun h => by have := HTp.out.1 h; cases this⟩
   ·gi_wp2_with fail
    exact ⟨HB9.out, HTp.out.2 (by trivial)⟩
  case stop =>
   intro D2 k W2 hD2 hk hp hsv hc hK2
   have HCond := Lib.hid (errF_typ HLg.out HHh.out HShY.out HLa.out (ty_not HShY.out HRet.out hk hp))
   have HKd2 := Lib.hid hK2
   have HD1 := Lib.hid ((hsv.block D HDl.out HDne.out).trans HK8.out)
   have HDz2 := Lib.hid (show w.heap.size ≤ D2 from Nat.le_trans (HB0.out.trans (HB8.out.mono HB0.out.size)).size hD2)
   have HNe : Hid (D2 ≠ D) := Lib.hid (by have := HDl.out; omega)
   have HWw := Lib.hid ((HB0.out.trans (HB8.out.mono HB0.out.size)).trans (hsv.below (Nat.le_succ _) (HB0.out.trans (HB8.out.mono HB0.out.size)).size))
   have HCc := Lib.hid hc
   clear hk hp hsv hc hK2 hD2
   gi_wp2_with fail
   exact leave_int w rfl rfl (fun W' h => HPP.out _ W' HCond.out h) [D2, D] _ (by simp [HNe.out]) (fun D' hD => by
    have hD : D' = D2 ∨ D' = D := by simpa using hD
    rcases hD with e | e
    ·rw [e]; exact ⟨HDz2.out, HKd2.out⟩
    ·rw [e]; exact ⟨HDz.out, HD1.out⟩) HCc.out HWw.out
  case done =>
   intro D2 W2 hD2 hbW hall hK2
   have HTyY := Lib.hid (ty_all HShY.out HRet.out hall)
   have HBW2 := Lib.hid (HB8.out.trans (hbW.mono HB8.out.size))
   have HRW2 := Lib.hid ((hbW.block _ (lt_of_block HR8.out)).trans HR8.out)
   have HKW2 := Lib.hid ((hbW.block _ (lt_of_block HK8.out)).trans HK8.out)
   have HKd2 := Lib.hid hK2
   have HDz2 := Lib.hid (show w.heap.size ≤ D2 from Nat.le_trans (HB0.out.trans (HB8.out.mono HB0.out.size)).size hD2)
   have HNe : Hid (D2 ≠ D) := Lib.hid (by have := HDl.out; omega)
   have d0 := keep HG0.out HBW2.out; have d1 := keep HG1.out HBW2.out; have d2 := keep HG2.out HBW2.out; have d3 := keep HG3.out HBW2.out
   have HDfW := Lib.hid (HDf.out W2 (HI.out.below HBW2.out) HShY.out HLa.out HTyY.out (by rw [← HN.out]; exact HN10.out.1) (by rw [← HN.out]; exact HN10.out.2))
   clear hbW hall hK2 hD2 g0 g3 hfn hE8
   go_wp2_with fail
   refine HDfW.out.mono ?_; rintro e w10 ⟨⟨sb, rfl, hsb2⟩, hb10⟩
   have HB10 := Lib.hid (HBW2.out.trans (hb10.mono HBW2.out.size))
   have HR10 := Lib.hid ((hb10.block _ (lt_of_block HRW2.out)).trans HRW2.out)
   have HK10 := Lib.hid ((hb10.block _ (lt_of_block HKW2.out)).trans HKW2.out)
   have HK102 := Lib.hid ((hb10.block _ (lt_of_block HKd2.out)).trans HKd2.out)
   have HSb := Lib.hid hsb2
   clear hb10 d0 d1 d2 d3 hsb2
   cases sb
   ·skip
    have hcond := errF_st (F := F) HLg.out HHh.out HShY.out HLa.out HTyY.out (fun h => by have := HSb.out.2 h; cases this)
    have HCond := Lib.hid hcond; clear hcond
    have rX := HR10.out
    have vXf := frozen_of_row w10 (w.heap.size + 1) 0 _ _ rX
    have vX := cell_of_row w10 (w.heap.size + 1) 0 _ _ _ rX
    have HBX := Lib.hid ((HB0.out.trans (HB10.out.mono HB0.out.size)).setCell (p := ⟨w.heap.size + 1, 0, none⟩) (Nat.le_succ _) (.int .i64 9))
    go_wp2_with fail
    exact leave_int w rfl rfl (fun W' h => HPP.out _ W' HCond.out h) [D2, D] _ (by simp [HNe.out]) (fun D' hD => by
     have hD : D' = D2 ∨ D' = D := by simpa using hD
     rcases hD with e | e
     ·rw [e]; exact ⟨HDz2.out, def_set _ HK102.out rX⟩
     ·rw [e]; exact ⟨HDz.out, def_set _ HK10.out rX⟩) (cell_of_row _ _ 0 _ _ _ (heap_setCell_same w10 _ 0 _ _ _ rX)) HBX.out
   ·skip
    have hcond := errF_ok (F := F) HLg.out HHh.out HShY.out HLa.out HTyY.out (HSb.out.1 rfl)
    have HCond := Lib.hid hcond; clear hcond
    have rX := HR10.out
    have vXf := frozen_of_row w10 (w.heap.size + 1) 0 _ _ rX
    have vX := cell_of_row w10 (w.heap.size + 1) 0 _ _ _ rX
    have HBX := Lib.hid ((HB0.out.trans (HB10.out.mono HB0.out.size)).setCell (p := ⟨w.heap.size + 1, 0, none⟩) (Nat.le_succ _) (.int .i64 0))
    go_wp2_with fail
    exact leave_int w rfl rfl (fun W' h => HPP.out _ W' HCond.out h) [D2, D] _ (by simp [HNe.out]) (fun D' hD => by
     have hD : D' = D2 ∨ D' = D := by simpa using hD
     rcases hD with e | e
     ·rw [e]; exact ⟨HDz2.out, def_set _ HK102.out rX⟩
     ·rw [e]; exact ⟨HDz.out, def_set _ HK10.out rX⟩) (cell_of_row _ _ 0 _ _ _ (heap_setCell_same w10 _ 0 _ _ _ rX)) HBX.out
end Go.Proofs.YtbbbflnnbbaamaaGreatDoor.PK
