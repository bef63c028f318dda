/- Packed of several texts. -/
import Derived.Test.YtbbbflnnbbaamaaGreatDoorH29
import Derived.Test.YtbbbflnnbbaamaaGreatDoorH27
import Derived.Test.YtbbbflnnbbaamaaGreatDoorH26
import Derived.Test.YtbbbflnnbbaamaaGreatDoorH12
namespace Go.Proofs.YtbbbflnnbbaamaaGreatDoor.PK
open Go.RowKit Go.Shelf
attribute [local go_sem] Oper.semAt_some

theorem typ_range {F : Fun} (h : typP F) {b i j : Nat} (hb : b < F.bs.length) (hi : i < (atBk F.bs b).length) (hj : j < (insA F b i).ar.length) : 0 ≤ (insA F b i).ar.getD j 0 ∧ (insA F b i).ar.getD j 0 < ((F.ps.length + sumI F.bs F.bs.length : Nat) : Int) := by
 have h1 := h b i hb hi
 unfold rtyB at h1
 rw [Bool.and_eq_true] at h1
 have h2 := List.all_eq_true.1 h1.1 ((ksI (kdsI F) (insA F b i)).getD j 0) (getDm (by rw [ksI_len]; exact hj))
 rw [ksI_get hj, decide_eq_true_eq] at h2
 unfold ofI at h2
 by_cases c : 0 ≤ (insA F b i).ar.getD j 0 ∧ (insA F b i).ar.getD j 0 < ((kdsI F).length : Int)
 ·rw [kdsI_len] at c; exact c
 ·rw [if_neg c] at h2; exact absurd h2 (by decide)
theorem reached_mem {g : List (List Int)} {b : Nat} (hv : FL.validE g = 0) : decide ((b : Int) ∈ FL.ints (FL.reachedL g)) = FL.rs (FL.gN g) (-1) 0 b := by
 have hok := FL.valid_ok hv
 unfold FL.reachedL
 rw [if_pos hv, Bool.eq_iff_iff, decide_eq_true_eq]
 unfold FL.ints FL.setL FL.setUpto
 rw [List.mem_map]
 constructor
 ·rintro ⟨x, hx, e⟩
  have : x = b := by omega
  subst this
  exact (List.mem_filter.1 hx).2
 ·intro h
  have hlt : b < (FL.gN g).length := (FL.rs_iff.1 h).lt hok.fits hok.pos
  exact ⟨b, List.mem_filter.2 ⟨List.mem_range.2 (Nat.lt_of_lt_of_le hlt hok.ten), h⟩, rfl⟩
def defP (F : Fun) (k : Nat) : Prop := FL.rs (FL.gN (gI F)) (-1) 0 (locI F.bs k).1 = true → insOk F (locI F.bs k).1 (locI F.bs k).2
theorem def_all {F : Fun} (h : ∀ k, k < sumI F.bs F.bs.length → defP F k) : statedP F := fun b hb hr i hi => by
 have h4 := sumI_mono hb
 have := h (sumI F.bs b + i) (by omega)
 unfold defP at this
 rw [locI_at F.bs b i hb hi] at this
 exact this hr
theorem def_not {F : Fun} {k : Nat} (hk : k < sumI F.bs F.bs.length) (h : ¬ defP F k) : ¬ statedP F := fun hs => by
 obtain ⟨l1, l2, _, _⟩ := locI_is F.bs k hk
 exact h fun hr => hs _ l1 hr _ l2
set_option maxRecDepth 100000 in
set_option maxHeartbeats 2000000 in
theorem isDefined_any (F : Fun) (A : FunA) (w : World) (hin : FunIn w F A) (hs : FunSm F) (hshp : shpP F) (hlaid : laidP F) (htyp : typP F) (h1 : 1 ≤ F.bs.length) (h10 : F.bs.length ≤ 10) :
  Calls Tryz.prog 71 #[funV F A] w (BoolIff (statedP F) w) := by
 obtain ⟨pa, pc, sa, sc, ba, bc⟩ := A
 have hal : Below w.heap.size w ((w.alloc (.cells #[.slice pa F.ps.length pc, .int .i64 F.ret, .slice sa F.sl.length sc, .slice ba F.bs.length bc] 31)).alloc (.cells #[.bool false] 4)) := ((Below.refl _ _).alloc (Nat.le_refl _) _).alloc (by simp) _
 have HI := Lib.hid (hin.below hal)
 have hr1 : ((w.alloc (.cells #[.slice pa F.ps.length pc, .int .i64 F.ret, .slice sa F.sl.length sc, .slice ba F.bs.length bc] 31)).alloc (.cells #[.bool false] 4)).heap[w.heap.size + 1]? = some (.cells #[.bool false] 4 : Obj) := by
  have := heap_alloc_new (w.alloc (.cells #[.slice pa F.ps.length pc, .int .i64 F.ret, .slice sa F.sl.length sc, .slice ba F.bs.length bc] 31)) (.cells #[.bool false] 4)
  simpa using this
 have hr0 : ((w.alloc (.cells #[.slice pa F.ps.length pc, .int .i64 F.ret, .slice sa F.sl.length sc, .slice ba F.bs.length bc] 31)).alloc (.cells #[.bool false] 4)).heap[w.heap.size]? = some ((.cells #[.slice pa F.ps.length pc, .int .i64 F.ret, .slice sa F.sl.length sc, .slice ba F.bs.length bc] 31) : Obj) := by
  rw [Below.heap_alloc _ _ _ (by simp)]
  exact heap_alloc_new _ _
 have HB0 := Lib.hid hal
 have HR0 := Lib.hid hr0; have HR1 := Lib.hid hr1
 have g0 := cell_of_row _ _ 0 _ _ _ hr0; have g1 := cell_of_row _ _ 1 _ _ _ hr0; have g2 := cell_of_row _ _ 2 _ _ _ hr0; have g3 := cell_of_row _ _ 3 _ _ _ hr0
 have HG0 := Lib.hid g0; have HG1 := Lib.hid g1; have HG2 := Lib.hid g2; have HG3 := Lib.hid g3
 have HSm := Lib.hid hs
 have HShp := Lib.hid hshp
 have hva := gr_valid h1 h10 hshp hlaid.1
 have HVa := Lib.hid hva
 have HHo := Lib.hid (fun u (h : FunIn u F ⟨pa, pc, sa, sc, ba, bc⟩) => homes_any F ⟨pa, pc, sa, sc, ba, bc⟩ u h hs (fun b hb => (hlaid.1 b hb).1))
 have HAl := Lib.hid (all_any F ⟨pa, pc, sa, sc, ba, bc⟩)
 have hgl := gI_len F
 have HRe := Lib.hid (fun ga gc u (h : RowsIn u ga (gI F)) => FL.Reached_any (gI F) ga gc u h (short_valid hva))
 rw [hgl, hva] at HRe
 have HTh := Lib.hid (fun a1 a2 ga c1 c2 gc (v : Int) (b at' : Nat) u (h1 : IntsIn u a1 (hbI F (sumI F.bs F.bs.length))) (h2 : IntsIn u a2 (haI F (sumI F.bs F.bs.length))) (hg : RowsIn u ga (gI F)) hv0 hv1 hb hr => isThere_any F a1 a2 ga c1 c2 gc v b at' u hs h1 h2 hg hv0 hv1 hva hb hr)
 have HMe := Lib.hid (fun b => reached_mem (g := gI F) (b := b) hva)
 have HTr := Lib.hid (fun (b i j : Nat) hb hi hj => typ_range htyp (b := b) (i := i) (j := j) hb hi hj)
 have HF : Hid (∀ w', ¬ statedP F → Below w.heap.size w w' → BoolIff (statedP F) w (.returned (.bool false)) w') := Lib.hid fun w' h1 h2 => ⟨⟨false, rfl, by simp [h1]⟩, h2⟩
 have HT : Hid (∀ w', statedP F → Below w.heap.size w w' → BoolIff (statedP F) w (.returned (.bool true)) w') := Lib.hid fun w' h1 h2 => ⟨⟨true, rfl, by simp [h1]⟩, h2⟩
 generalize BoolIff (statedP F) w = PP at *
 clear hin hal hr0 hr1 hs hshp hlaid htyp hva hgl
 simp only [funV, funC] at HHo HAl ⊢
 generalize hN : sumI F.bs F.bs.length = N at *
 have HNN := Lib.hid hN; clear hN
 generalize hn : F.bs.length = n at *
 have HN := Lib.hid hn; clear hn
 generalize hnp : F.ps.length = np at *
 have HNp := Lib.hid hnp; clear hnp
 refine (callsIn_wide (n := 3)).1 ?_
 refine callsIn_of_wp_marks Tryz.func71 rfl trivial ?_ rfl
 simp only [Tryz.ntmps71, List.size_toArray, List.length_cons, List.length_nil, Nat.reduceAdd, Nat.reduceSub, Array.replicate_succ, Array.replicate_zero, List.push_toArray, List.append_toArray, List.nil_append, List.cons_append]
 refine wpIn_wide.2 ?_
 go_upto_region 1 with fail
 generalize ((w.alloc _).alloc _) = w1 at *
 go_wp2_with fail
 refine (HHo.out _ HI.out).mono ?_; rintro e w2 ⟨⟨a1, c1, a2, c2, ga, gc, rfl, hi1, hi2, hrows⟩, hb2⟩
 rw [HNp.out, HN.out, HNN.out]
 rw [HN.out, HNN.out] at hi1 hi2
 have hba : Below w2.heap.size w2 (w2.alloc (.cells #[.int .i64 np, .slice a1 N c1, .slice a2 N c2, .slice ga n gc] 158)) := (Below.refl _ _).alloc (Nat.le_refl _) _
 have hrow : (w2.alloc (.cells #[.int .i64 np, .slice a1 N c1, .slice a2 N c2, .slice ga n gc] 158)).heap[w2.heap.size]? = some ((.cells #[.int .i64 np, .slice a1 N c1, .slice a2 N c2, .slice ga n gc] 158) : Obj) := heap_alloc_new _ _
 have HB2 := Lib.hid (hb2.trans (hba.mono hb2.size))
 have H1 := Lib.hid (hi1.below hba); have H2 := Lib.hid (hi2.below hba); have HRw := Lib.hid (hrows.below hba)
 have HRow := Lib.hid hrow
 have q3 := cell_of_row _ _ 3 _ _ _ hrow
 clear hi1 hi2 hrows hb2 hba g0 g1 g2 g3
 go_upto_region 2 with fail
 generalize w2.alloc _ = w3 at *
 generalize w2.heap.size = q2 at *
 clear hrow
 have HReq := Lib.hid (HRe.out ga gc w3 HRw.out)
 go_wp2_with fail
 refine HReq.out.mono ?_; rintro e w4 ⟨v, rfl, hvs, hb4⟩
 obtain ⟨ra, rc, rfl, hri⟩ := nats_ints hvs
 have hba : Below w4.heap.size w4 (w4.alloc (.cells #[.slice ra (FL.ints (FL.reachedL (gI F))).length rc] 28)) := (Below.refl _ _).alloc (Nat.le_refl _) _
 have c4 : (w4.alloc (.cells #[.slice ra (FL.ints (FL.reachedL (gI F))).length rc] 28)).cell? ⟨w4.heap.size, 0, none⟩ = some (.slice ra (FL.ints (FL.reachedL (gI F))).length rc) := cell_of_row _ _ 0 _ _ _ (heap_alloc_new _ _)
 have hb34 := hb4.trans (hba.mono hb4.size)
 have HB4 := Lib.hid (HB2.out.trans (hb34.mono HB2.out.size))
 have H14 := Lib.hid (H1.out.below hb34); have H24 := Lib.hid (H2.out.below hb34); have HRw4 := Lib.hid (HRw.out.below hb34)
 have HRow4 := Lib.hid ((hb34.block _ (lt_of_block HRow.out)).trans HRow.out)
 have HRi := Lib.hid (hri.below hba)
 have hrl : (FL.ints (FL.reachedL (gI F))).length ≤ 1000 := by
  rw [FL.ints_len]
  unfold FL.reachedL
  split
  ·exact Nat.le_trans (FL.setUpto_len _ _) (by decide)
  ·exact Nat.zero_le _
 have HRl := Lib.hid hrl
 clear hri hvs hb4 hba hb34 q3 hrl
 generalize hLn : (FL.ints (FL.reachedL (gI F))).length = rl at *
 have HLn := Lib.hid hLn; clear hLn
 go_upto_region 3 with fail
 generalize w4.alloc _ = w5 at *
 generalize w4.heap.size = q4 at *
 have HC4 := Lib.hid c4
 have d0 := keep HG0.out HB4.out; have d1 := keep HG1.out HB4.out; have d2 := keep HG2.out HB4.out; have d3 := keep HG3.out HB4.out
 have HR5 := Lib.hid ((HB4.out.block _ (lt_of_block HR1.out)).trans HR1.out)
 clear c4
 go_wp2_with fail
 refine (HAl.out _).mono ?_; rintro e w6 ⟨rfl, rfl⟩
 clear d0 d1 d2 d3
 go_wp2_with fail
 have hba : Below w5.heap.size w5 (w5.alloc (.cells #[.slice pa np pc, .int .i64 F.ret, .slice sa F.sl.length sc, .slice ba n bc] 31)) := (Below.refl _ _).alloc (Nat.le_refl _) _
 have hfn : (w5.alloc (.cells #[.slice pa np pc, .int .i64 F.ret, .slice sa F.sl.length sc, .slice ba n bc] 31)).heap[w5.heap.size]? = some ((.cells #[.slice pa np pc, .int .i64 F.ret, .slice sa F.sl.length sc, .slice ba n bc] 31) : Obj) := heap_alloc_new _ _
 have HB6 := Lib.hid (HB4.out.trans (hba.mono HB4.out.size))
 have HR6 := Lib.hid ((hba.block _ (lt_of_block HR5.out)).trans HR5.out)
 have HC46 := Lib.hid (keep HC4.out hba)
 have HRow6 := Lib.hid ((hba.block _ (lt_of_block HRow4.out)).trans HRow4.out)
 have H16 := Lib.hid (H14.out.below hba); have H26 := Lib.hid (H24.out.below hba); have HRw6 := Lib.hid (HRw4.out.below hba); have HRi6 := Lib.hid (HRi.out.below hba)
 have hBs : w5.heap.size < (w5.alloc (.cells #[.slice pa np pc, .int .i64 F.ret, .slice sa F.sl.length sc, .slice ba n bc] 31)).heap.size := by simp
 clear hba
 generalize w5.alloc _ = w6 at *
 generalize w5.heap.size = Bs at *
 have HIw6 := Lib.hid (HI.out.below HB6.out)
 obtain ⟨E, hE⟩ := HIw6.out.bs.places
 have g0 := cell_of_row _ _ 0 _ _ _ hfn; have g3 := cell_of_row _ _ 3 _ _ _ hfn
 have hbl : F.bs.length ≤ 1000 := by rw [HN.out]; omega
 have hbn : ∀ k, k < F.bs.length → (atBk F.bs k).length ≤ 1000 := fun k hk => Nat.le_trans (HSm.out.ins k hk) (by omega)
 have hpl := HSm.out.ps
 have HE2 := Lib.hid hE
 have HLk := Lib.hid (fun k h => locI_is F.bs k h)
 refine (wpIn_wide (n := 3)).1 ?_
 refine range_test (p := 20) (s := 6) F ⟨pa, pc, sa, sc, ba, bc⟩ E Bs (w.heap.size + 1) w.heap.size (.bool false) (.bool false) 4 (defP F) rfl hbl hbn (by omega) hE hBs (by rw [HNp.out]; exact g0) (by rw [HN.out]; exact g3) HR6.out (Nat.le_succ _) ?assign ?body ?done ?stop
 case assign =>
  intro l k W K hK
  gi_wp2
  exact hK
 case body =>
  intro l k W Bx hbW hP hk hBx hx
  obtain ⟨l1, l2, l3, l4⟩ := HLk.out k hk
  clear l4
  have HPd : Hid (defP F k ↔ (FL.rs (FL.gN (gI F)) (-1) 0 (locI F.bs k).1 = true → insOk F (locI F.bs k).1 (locI F.bs k).2)) := Lib.hid Iff.rfl
  obtain ⟨_, _, _, _, hu1, hu2, hblk⟩ := (HE2.out.below hbW) _ l1
  obtain ⟨_, _, hu3, hxx⟩ := hblk _ l2
  have HTt : Hid (IntsIn W (eI F E k).ta (xI F k).tt) := Lib.hid hxx.it
  have HAr : Hid (IntsIn W (eI F E k).aa (xI F k).ar) := Lib.hid hxx.ia
  clear hblk hxx hu1 hu2 hu3
  have hln := HSm.out.ars (locI F.bs k).1 (locI F.bs k).2 l1 l2
  have har : (xI F k).ar.length ≤ 40 := hln.1
  have htt : (xI F k).tt.length ≤ 40 := hln.2
  have HTk : Hid (∀ j, j < (xI F k).ar.length → 0 ≤ (xI F k).ar.getD j 0 ∧ (xI F k).ar.getD j 0 < ((np + N : Nat) : Int)) := Lib.hid fun j hj => HTr.out _ _ j (by rw [← HN.out]; exact l1) l2 hj
  have HSh := Lib.hid (shape_tos (HShp.out _ _ l1 l2))
  have HPh : Hid ((xI F k).op = 28 → (xI F k).tt.length = (xI F k).ar.length ∧ ∀ j, j < (xI F k).tt.length → 0 ≤ (xI F k).tt.getD j 0 ∧ (xI F k).tt.getD j 0 < (n : Int)) := Lib.hid fun h => by
   obtain ⟨e1, e2, e3⟩ := HSh.out
   have ha : argsI F.ret (insA F (locI F.bs k).1 (locI F.bs k).2) = ((insA F (locI F.bs k).1 (locI F.bs k).2).tt.length : Int) := by
    unfold argsI; rw [h]; simp [clsI]
   have htl : (insA F (locI F.bs k).1 (locI F.bs k).2).tt.length = (insA F (locI F.bs k).1 (locI F.bs k).2).ar.length := by omega
   refine ⟨htl, fun j hj => ?_⟩
   have := e3 _ (getDm hj)
   rw [HN.out] at this; exact this
  have HAo : Hid (∀ j, argOk F (locI F.bs k).1 (locI F.bs k).2 j ↔ if (xI F k).op = 28 then (FL.rs (FL.gN (gI F)) (-1) 0 ((xI F k).tt.getD j 0).toNat = true → thrB F ((xI F k).ar.getD j 0) ((xI F k).tt.getD j 0).toNat (-1) = true) else thrB F ((xI F k).ar.getD j 0) (locI F.bs k).1 (locI F.bs k).2 = true) := Lib.hid fun j => Iff.rfl
  have HIo : Hid (insOk F (locI F.bs k).1 (locI F.bs k).2 ↔ ∀ j, j < (xI F k).ar.length → argOk F (locI F.bs k).1 (locI F.bs k).2 j) := Lib.hid Iff.rfl
  have HXc := Lib.hid hx
  rw [HN.out] at l1
  have HL1 := Lib.hid l1
  have HMb := Lib.hid (HMe.out (locI F.bs k).1)
  have HCt := Lib.hid (fun (v : Int) u (h : IntsIn u ra (FL.ints (FL.reachedL (gI F)))) => FL.contains_any (FL.ints (FL.reachedL (gI F))) ra rc v u h (by rw [HLn.out]; exact HRl.out))
  have HBW := Lib.hid hbW
  have HRr := Lib.hid ((hbW.block _ (lt_of_block HR6.out)).trans HR6.out)
  have HRiW := Lib.hid (HRi6.out.below hbW)
  clear hx hP hln l1 l2 l3
  rw [HLn.out] at HCt
  generalize defP F k = Pk at *
  generalize insOk F (locI F.bs k).1 (locI F.bs k).2 = Io at *
  generalize argOk F (locI F.bs k).1 (locI F.bs k).2 = Ao at *
  generalize xI F k = x at *
  generalize eI F E k = ee at *
  generalize (locI F.bs k).1 = bk at *
  generalize (locI F.bs k).2 = ik at *
  have x7 := HXc.out.cell.2.2.2.2.2.2.2.1
  have c4 := keep HC46.out hbW
  have HCb := Lib.hid (HCt.out bk W HRiW.out)
  rw [HMb.out] at HCb
  generalize hrb : FL.rs (FL.gN (gI F)) (-1) 0 bk = rb at *
  have HRb := Lib.hid hrb; clear hrb
  clear hbW
  gi_wp2_with fail
  refine ⟨trivial, ?_⟩
  refine (CallsIn.inRound l (callsIn_wide.2 HCb.out)).mono ?_; rintro e w8 ⟨rfl, rfl⟩
  clear c4
  cases rb
  ·have HPy := Lib.hid (HPd.out.2 (fun h => by cases h))
   gi_wp2_with fail
   exact ⟨Below.refl _ _, HPy.out⟩
  have HPi : Hid (Pk ↔ ∀ j, j < x.ar.length → Ao j) := Lib.hid (HPd.out.trans ⟨fun h => HIo.out.1 (h rfl), fun h _ => HIo.out.2 h⟩)
  have x3 := HXc.out.cell.2.2.2.1
  generalize hna : x.ar.length = na at *
  have HNa := Lib.hid hna; clear hna
  obtain ⟨eaa, eca, eta, ect⟩ := ee
  simp only at x3 HTt HAr
  gi_wp2_with fail
  clear x3 x7
  gi_loopw [30] (fun i wr => ∃ j : Nat, j ≤ na ∧ i = .int .i64 j ∧ Hid (∀ m, m < j → Ao m) ∧ Below W.heap.size W wr) (fun i _ => na - (intOf i).toNat)
  case atStart => exact ⟨0, Nat.zero_le _, rfl, Lib.hid fun j hj => absurd hj (Nat.not_lt_zero _), Below.refl _ _⟩
  case round =>
   obtain ⟨j, hj, rfl, HJ, hbj⟩ := hrel
   have HBj := Lib.hid hbj
   by_cases hlj : j < na
   rotate_left
   ·obtain rfl : j = na := by omega
    have HPy := Lib.hid (HPi.out.2 HJ.out)
    clear hbj
    gi_wp2_with fail
    exact ⟨HBj.out, HPy.out⟩
   have hji : (j : Int) < (na : Int) := by omega
   obtain ⟨hv0, hv1⟩ := HTk.out j hlj
   have HV0 := Lib.hid hv0; have HV1 := Lib.hid hv1
   have HAj := Lib.hid (HAo.out j)
   have HNo : Hid (¬ Ao j → ¬ Pk) := Lib.hid fun h1 h2 => h1 (HPi.out.1 h2 j hlj)
   have HJx : Hid (Ao j → ∀ m, m < j + 1 → Ao m) := Lib.hid fun h m hm => by
    by_cases e : m = j
    ·subst e; exact h
    ·exact HJ.out m (by omega)
   have hBW := HBW.out.trans (hbj.mono HBW.out.size)
   have HXw := Lib.hid (HXc.out.below hbj)
   have x0 := HXw.out.cell.1; have x7 := HXw.out.cell.2.2.2.2.2.2.2.1; have x8 := HXw.out.cell.2.2.2.2.2.2.2.2
   have HHw := Lib.hid ((hBW.block _ (lt_of_block HRow6.out)).trans HRow6.out)
   have s0 := cell_of_row _ _ 0 _ _ _ HHw.out; have s1 := cell_of_row _ _ 1 _ _ _ HHw.out; have s2 := cell_of_row _ _ 2 _ _ _ HHw.out; have s3 := cell_of_row _ _ 3 _ _ _ HHw.out
   have HRx := Lib.hid ((hbj.block _ (lt_of_block HRr.out)).trans HRr.out)
   have i1 := H16.out.below hBW; have i2 := H26.out.below hBW; have ir := HRw6.out.below hBW
   have HTw := Lib.hid (fun (y : Int) (b at' : Nat) h0 h1 hb hr => HTh.out a1 a2 ga c1 c2 gc y b at' wr i1 i2 ir h0 h1 hb hr)
   have HTd := Lib.hid (fun (y : Int) (b at' : Nat) h0 h1 hb hr => HTh.out a1 a2 ga c1 c2 gc y b at' wr.drew (i1.below (Below.refl _ _).drew) (i2.below (Below.refl _ _).drew) (ir.below (Below.refl _ _).drew) h0 h1 hb hr)
   have HRiw := Lib.hid (HRiW.out.below hbj)
   have HB6w := Lib.hid (HB6.out.trans (hBW.mono HB6.out.size))
   obtain ⟨b3, o3, ha, ck⟩ := (HAr.out.below hbj) j (by rw [HNa.out]; exact hlj)
   obtain rfl : eaa = _ := ha
   clear i1 i2 ir hv0 hv1
   generalize x.ar.getD j 0 = y at *
   by_cases h28 : x.op = 28
   rotate_left
   ·have q28 : (x.op != 28) = true := bne_iff_ne.2 h28
    have HA2 : Hid (Ao j ↔ thI F y bk ik = true) := Lib.hid (by rw [HAj.out, if_neg h28, thI_at])
    have HC := Lib.hid (HTw.out y bk ik HV0.out HV1.out HL1.out HRb.out)
    generalize thI F y bk ik = tb at *
    clear h28 hbj hBW
    gi_wp2_with fail
    refine ⟨trivial, ?_⟩
    refine (CallsIn.inRound l (callsIn_wide.2 HC.out)).mono ?_; rintro e w9 ⟨rfl, hb9⟩
    have HB9 := Lib.hid (HBj.out.trans (hb9.mono HBj.out.size))
    have r9 := (hb9.block _ (lt_of_block HRx.out)).trans HRx.out
    have v9f := frozen_of_row w9 (w.heap.size + 1) 0 _ _ r9
    have v9 := cell_of_row w9 (w.heap.size + 1) 0 _ _ _ r9
    clear hb9 x0 x7 x8 s0 s1 s2 s3 ck
    cases tb
    ·have HNp := Lib.hid (HNo.out (fun h => by have := HA2.out.1 h; cases this))
     gi_wp2_with fail
     exact ⟨⟨_, HB9.out, rfl⟩, HNp.out⟩
    ·have HJy := Lib.hid (HJx.out (HA2.out.2 rfl))
     gi_wp2_with fail
     go_roundw
     case rel => exact ⟨j + 1, by omega, by go_num, HJy, HB9.out⟩
     case measure => simp [intOf]; omega
   have q28 : (x.op != 28) = false := by simp [h28]
   obtain ⟨hpl2, hpr⟩ := HPh.out h28
   obtain ⟨ht0, ht1⟩ := hpr j (by rw [hpl2]; exact hlj)
   have hjt : (j : Int) < (x.tt.length : Int) := by rw [hpl2]; exact hji
   have HA2 : Hid (Ao j ↔ (FL.rs (FL.gN (gI F)) (-1) 0 (x.tt.getD j 0).toNat = true → thrB F y (x.tt.getD j 0).toNat (-1) = true)) := Lib.hid (by rw [HAj.out, if_pos h28])
   obtain ⟨b4, o4, ha4, ck4⟩ := (HTt.out.below hbj) j (by rw [hpl2]; exact hlj)
   obtain rfl : eta = _ := ha4
   obtain ⟨tn, htn⟩ : ∃ tn : Nat, x.tt.getD j 0 = (tn : Int) := ⟨(x.tt.getD j 0).toNat, by omega⟩
   rw [htn] at ck4 HA2 ht1
   rw [Int.toNat_natCast] at HA2
   have htn2 : tn < n := by omega
   have x5 := HXw.out.cell.2.2.2.2.2.1
   have HCc := HCt.out tn
   rw [HMe.out tn] at HCc
   have HCq := Lib.hid ((HCc wr.drew (HRiw.out.below (Below.refl _ _).drew)).mono fun e w' h => And.intro h.1 h.2.symm)
   have c4 := keep HC46.out hBW
   have HRn := Lib.hid (fun h => HTd.out y tn (atBk F.bs tn).length HV0.out HV1.out htn2 h)
   rw [thI_end] at HRn
   obtain ⟨b5, o5, a5, cp5, ha5, hc5, _⟩ := (HI.out.below HB6w.out).bs tn (by rw [HN.out]; exact htn2)
   have f3 := keep HG3.out HB6w.out
   obtain rfl : ba = _ := ha5
   have hti : (tn : Int) < (n : Int) := by omega
   clear ht0 ht1 hpr hpl2 h28 htn HCc hbj hBW HAj
   generalize hrt : FL.rs (FL.gN (gI F)) (-1) 0 tn = rt at *
   have HRt := Lib.hid hrt; clear hrt
   generalize thrB F y tn (-1) = tb at *
   generalize (atBk F.bs tn).length = m5 at *
   have HBd := Lib.hid (below_drew1 HBj.out)
   gi_wp2_with fail
   clear x0 x5 x7 x8 ck ck4
   cases rt
   ·have HJy := Lib.hid (HJx.out (HA2.out.2 (fun h => by cases h)))
    clear s0 s1 s2 s3 f3 hc5
    refine wpIn_region_still_round (by kernel_rfl) (by kernel_rfl) (fun ⟨_, _, h⟩ => h) (by kernel_rfl) ?_
    iterate 2 (refine still_step_h (fun K hK => ?_); go_simp; refine hK.out _ ?_; clear hK K)
    (refine still_step_h (fun K hK => ?_); go_simp; refine ⟨_, HCq.out, hK.out _ ?_⟩; clear hK K)
    (refine still_step_h (fun K hK => ?_); go_simp; refine hK.out _ ?_; clear hK K)
    iterate 11 (refine still_skip_h (by rfl) ?_; simp only [Act.put, List.setIfInBounds_toArray, List.set_cons_zero, List.set_cons_succ])
    (refine still_step_h (fun K hK => ?_); go_simp; refine hK.out _ ?_; clear hK K)
    refine still_nil_h ?_
    clear c4
    gi_wp2_with fail
    go_roundw
    case rel => exact ⟨j + 1, by omega, by go_num, HJy, HBd.out⟩
    case measure => simp [intOf]; omega
   have HRm := Lib.hid (HRn.out rfl)
   have HA3 : Hid (Ao j ↔ tb = true) := Lib.hid (HA2.out.trans ⟨fun h => h rfl, fun h _ => h⟩)
   refine wpIn_region_tail_round 13 (by kernel_rfl) (by kernel_rfl) (fun ⟨_, _, h⟩ => h) (by kernel_rfl) ?_
   simp only [List.take_succ_cons, List.take_zero, List.drop_succ_cons, List.drop_zero]
   iterate 2 (refine still_step_h (fun K hK => ?_); go_simp; refine hK.out _ ?_; clear hK K)
   (refine still_step_h (fun K hK => ?_); go_simp; refine ⟨_, HCq.out, hK.out _ ?_⟩; clear hK K)
   iterate 10 (refine still_step_h (fun K hK => ?_); go_simp; refine hK.out _ ?_; clear hK K)
   refine still_nil_h ?_
   clear s0 s1 s2 s3 f3 hc5 c4
   go_wp2_with fail
   refine HRm.out.mono ?_; rintro e w9 ⟨rfl, hb9⟩
   have HB9 := Lib.hid (HBj.out.trans ((below_of_drew hb9).mono HBj.out.size))
   have r9 := ((below_of_drew hb9).block _ (lt_of_block HRx.out)).trans HRx.out
   have v9f := frozen_of_row w9 (w.heap.size + 1) 0 _ _ r9
   have v9 := cell_of_row w9 (w.heap.size + 1) 0 _ _ _ r9
   clear hb9
   cases tb
   ·have HNp := Lib.hid (HNo.out (fun h => by have := HA3.out.1 h; cases this))
    go_wp2_with fail
    gi_wp2_with fail
    exact ⟨⟨_, HB9.out, rfl⟩, HNp.out⟩
   ·have HJy := Lib.hid (HJx.out (HA3.out.2 rfl))
    go_wp2_with fail
    gi_wp2_with fail
    go_roundw
    case rel => exact ⟨j + 1, by omega, by go_num, HJy, HB9.out⟩
    case measure => simp [intOf]; omega
 case done =>
  intro D W hD hbW hall hK
  have HLd := Lib.hid (def_all hall)
  have rD := (hbW.block _ (lt_of_block HR6.out)).trans HR6.out
  have vDf := frozen_of_row W (w.heap.size + 1) 0 _ _ rD
  have vD := cell_of_row W (w.heap.size + 1) 0 _ _ _ rD
  have HBW := Lib.hid (HB0.out.trans ((HB6.out.trans (hbW.mono HB6.out.size)).mono HB0.out.size))
  have HDz := Lib.hid (show w.heap.size ≤ D from Nat.le_trans (HB0.out.trans (HB6.out.mono HB0.out.size)).size hD)
  have HKd : Hid ((W.setCell ⟨w.heap.size + 1, 0, none⟩ (.bool true)).heap[D]? = some (.deferred (some []))) := Lib.hid (by
   rw [Below.heap_setCell _ _ _ _ (fun e => by
    have e : D = w.heap.size + 1 := e
    rw [e, rD] at hK; cases hK)]; exact hK)
  clear hbW hall hK
  go_wp2_with fail
  exact leave_bool w rfl rfl HKd.out (cell_of_row _ _ 0 _ _ _ (heap_setCell_same W _ 0 _ _ _ rD)) (HBW.out.setCell (by show w.heap.size ≤ w.heap.size + 1; omega) _) HDz.out (fun W' h => HT.out W' HLd.out h)
 case stop =>
  intro D k W hD hk hp hbW hc hK
  have HLn := Lib.hid (def_not hk hp)
  have HKd := Lib.hid hK
  have HDz := Lib.hid (show w.heap.size ≤ D from Nat.le_trans (HB0.out.trans (HB6.out.mono HB0.out.size)).size hD)
  have HWw := Lib.hid ((HB0.out.trans (HB6.out.mono HB0.out.size)).trans hbW)
  have HCc := Lib.hid hc
  clear hk hp
  gi_wp2_with fail
  exact leave_bool w rfl rfl HKd.out HCc.out HWw.out HDz.out (fun W' h => HF.out W' HLn.out h)
end Go.Proofs.YtbbbflnnbbaamaaGreatDoor.PK
