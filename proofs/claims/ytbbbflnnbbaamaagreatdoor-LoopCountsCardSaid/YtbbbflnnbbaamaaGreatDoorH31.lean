/- Packed of several texts. -/
import Derived.Test.YtbbbflnnbbaamaaGreatDoorH29
import Derived.Test.YtbbbflnnbbaamaaGreatDoorH19
import Derived.Test.YtbbbflnnbbaamaaGreatDoorH27
import Derived.Test.YtbbbflnnbbaamaaGreatDoorH22
namespace Go.Proofs.YtbbbflnnbbaamaaGreatDoor.PK
open Go.RowKit Go.Shelf
attribute [local go_sem] Oper.semAt_some

set_option maxRecDepth 100000 in
set_option maxHeartbeats 2000000 in
theorem isLaid_any (F : Fun) (A : FunA) (w : World) (hin : FunIn w F A) (hs : FunSm F) (hshp : shpP F) (h1 : 1 ≤ F.bs.length) (h10 : F.bs.length ≤ 10) :
  Calls Tryz.prog 68 #[funV F A] w (BoolIff (laidP F) w) := by
 obtain ⟨pa, pc, sa, sc, ba, bc⟩ := A
 have hal : Below w.heap.size w ((w.alloc (.cells #[.slice pa F.ps.length pc, .int .i64 F.ret, .slice sa F.sl.length sc, .slice ba F.bs.length bc] 31)).alloc (.cells #[.bool false] 4)) := ((Below.refl _ _).alloc (Nat.le_refl _) _).alloc (by simp) _
 have HI := Lib.hid (hin.below hal)
 have hr1 : ((w.alloc (.cells #[.slice pa F.ps.length pc, .int .i64 F.ret, .slice sa F.sl.length sc, .slice ba F.bs.length bc] 31)).alloc (.cells #[.bool false] 4)).heap[w.heap.size + 1]? = some (.cells #[.bool false] 4 : Obj) := by
  have := heap_alloc_new (w.alloc (.cells #[.slice pa F.ps.length pc, .int .i64 F.ret, .slice sa F.sl.length sc, .slice ba F.bs.length bc] 31)) (.cells #[.bool false] 4)
  simpa using this
 have hr0 : ((w.alloc (.cells #[.slice pa F.ps.length pc, .int .i64 F.ret, .slice sa F.sl.length sc, .slice ba F.bs.length bc] 31)).alloc (.cells #[.bool false] 4)).heap[w.heap.size]? = some ((.cells #[.slice pa F.ps.length pc, .int .i64 F.ret, .slice sa F.sl.length sc, .slice ba F.bs.length bc] 31) : Obj) := by
  rw [Below.heap_alloc _ _ _ (by simp)]
  exact heap_alloc_new _ _
 have HB0 := Lib.hid hal
 have HR0 := Lib.hid hr0; have HR1 := Lib.hid hr1
 have g0 := cell_of_row _ _ 0 _ _ _ hr0; have g1 := cell_of_row _ _ 1 _ _ _ hr0; have g2 := cell_of_row _ _ 2 _ _ _ hr0; have g3 := cell_of_row _ _ 3 _ _ _ hr0
 have b0 := cell_of_row _ _ 0 _ _ _ hr1
 have HG0 := Lib.hid g0; have HG1 := Lib.hid g1; have HG2 := Lib.hid g2; have HG3 := Lib.hid g3; have HV0 := Lib.hid b0
 have HSm := Lib.hid hs
 have HShp := Lib.hid hshp
 have HLa := Lib.hid (fun op u => isLastI_any op u)
 have HGr := Lib.hid (fun u (h : FunIn u F ⟨pa, pc, sa, sc, ba, bc⟩) hp ht => graph_any F ⟨pa, pc, sa, sc, ba, bc⟩ u h.bs (by omega) hp ht)
 have HAl := Lib.hid (all_any F ⟨pa, pc, sa, sc, ba, bc⟩)
 have HF : Hid (∀ w', ¬ laidP F → Below w.heap.size w w' → BoolIff (laidP F) w (.returned (.bool false)) w') := Lib.hid fun w' h1 h2 => ⟨⟨false, rfl, by simp [h1]⟩, h2⟩
 have HT : Hid (∀ w', laidP F → Below w.heap.size w w' → BoolIff (laidP F) w (.returned (.bool true)) w') := Lib.hid fun w' h1 h2 => ⟨⟨true, rfl, by simp [h1]⟩, h2⟩
 generalize BoolIff (laidP F) w = PP at *
 clear hin hal hr0 hr1 hs hshp
 simp only [funV, funC] at HGr HAl ⊢
 generalize hn : F.bs.length = n at *
 have HN := Lib.hid hn; clear hn
 refine (callsIn_wide (n := 3)).1 ?_
 refine callsIn_of_wp_marks Tryz.func68 rfl trivial ?_ rfl
 simp only [Tryz.ntmps68, List.size_toArray, List.length_cons, List.length_nil, Nat.reduceAdd, Nat.reduceSub, Array.replicate_succ, Array.replicate_zero, List.push_toArray, List.append_toArray, List.nil_append, List.cons_append]
 refine wpIn_wide.2 ?_
 go_upto_region 1 with fail
 generalize ((w.alloc _).alloc _) = w1 at *
 go_wp2_with fail
 clear g0 g1 g2 g3 b0
 go_loopw [16] (fun i wr => ∃ b : Nat, b ≤ n ∧ i = .int .i64 b ∧ Hid (∀ c, c < b → blkOk (atBk F.bs c)) ∧ Below w1.heap.size w1 wr) (fun i _ => n - (intOf i).toNat)
 case atStart => exact ⟨0, Nat.zero_le _, rfl, Lib.hid fun c hc => absurd hc (Nat.not_lt_zero _), Below.refl _ _⟩
 case round =>
  obtain ⟨b, hb, rfl, HAll, hbw⟩ := hrel
  obtain ⟨wo, rfl⟩ : ∃ wo, wo = wr := ⟨_, rfl⟩
  have HBw := Lib.hid hbw
  by_cases hlt : b < n
  rotate_left
  ·obtain rfl : b = n := by omega
   have hblk : ∀ c, c < F.bs.length → blkOk (atBk F.bs c) := fun c hc => HAll.out c (by rw [HN.out] at hc; exact hc)
   have HBlk := Lib.hid hblk
   have hva := gr_valid (F := F) (by rw [HN.out]; exact h1) (by rw [HN.out]; exact h10) HShp.out hblk
   have HVa := Lib.hid hva
   have hgl : (gI F).length = b := by rw [gI_len, HN.out]
   have HBf : Hid (∀ (v : Nat) ga gc u, v < b → RowsIn u ga (gI F) → Calls Tryz.prog 75 #[.slice ga b gc, .int .i64 (v : Nat)] u fun e w' => (∃ c d, e = .returned (.tuple #[.slice c (befK (gI F) v b).length d, .int .i64 0]) ∧ IntsIn w' c (befK (gI F) v b)) ∧ Below u.heap.size u w') := Lib.hid fun v ga gc u hv hr => by
    have := before_list (gI F) ga gc v u hr hva (by rw [hgl]; exact hv)
    rwa [hgl] at this
   have HIw := Lib.hid (HI.out.below hbw)
   have HGw := Lib.hid (HGr.out _ HIw.out (fun k hk => ⟨(hblk k (by rw [HN.out]; exact hk)).1, Nat.le_trans (HSm.out.ins k (by rw [HN.out]; exact hk)) (by omega)⟩) (fun k hk => Nat.le_trans (HSm.out.gI (fun c hc => (hblk c hc).1) k (by rw [HN.out]; exact hk)) (by omega)))
   have d0 := keep HG0.out hbw; have d1 := keep HG1.out hbw; have d2 := keep HG2.out hbw; have d3 := keep HG3.out hbw
   have HRo := Lib.hid ((hbw.block _ (lt_of_block HR1.out)).trans HR1.out)
   clear hblk hva hbw
   go_wp2_with fail
   refine HGw.out.mono ?_; rintro e w3 ⟨⟨v, rfl, hro⟩, hb3⟩
   obtain ⟨ga, gc, rfl, hrows⟩ := hro.rows
   rw [hgl]
   clear hgl hro d0 d1 d2 d3
   have HB3 := Lib.hid (HBw.out.trans (hb3.mono HBw.out.size))
   have HR3 := Lib.hid ((hb3.block _ (lt_of_block HRo.out)).trans HRo.out)
   have hba : Below w3.heap.size w3 (w3.alloc (.cells #[.slice ga b gc] 39)) := (Below.refl _ _).alloc (Nat.le_refl _) _
   have HRw := Lib.hid (hrows.below hba)
   have c7 : (w3.alloc (.cells #[.slice ga b gc] 39)).cell? ⟨w3.heap.size, 0, none⟩ = some (.slice ga b gc) := cell_of_row _ _ 0 _ _ _ (heap_alloc_new _ _)
   have HB4 := Lib.hid (HB3.out.trans (hba.mono HB3.out.size))
   have HR4 := Lib.hid ((hba.block _ (lt_of_block HR3.out)).trans HR3.out)
   have HBf0 := Lib.hid (HBf.out 0 ga gc _ (by omega) HRw.out)
   have h7 : w3.heap.size < (w3.alloc (.cells #[.slice ga b gc] 39)).heap.size := by simp
   clear hrows hba hb3
   go_upto_region 14 with fail
   generalize w3.alloc _ = w4 at *
   generalize w3.heap.size = g7 at *
   have HC7 := Lib.hid c7
   go_wp2_with fail
   refine HBf0.out.mono ?_; rintro e w5 ⟨⟨c0, d0, rfl, hi0⟩, hb5⟩
   have HB5 := Lib.hid (HB4.out.trans (hb5.mono HB4.out.size))
   have HR5 := Lib.hid ((hb5.block _ (lt_of_block HR4.out)).trans HR4.out)
   have HC75 := Lib.hid (keep HC7.out hb5)
   have HRw5 := Lib.hid (HRw.out.below hb5)
   clear hi0 hb5 c7 h7
   by_cases hz : 0 < (befK (gI F) 0 b).length
   ·have hnl : ¬ laidP F := fun h => by
     have := h.2.1
     rw [HN.out] at this
     rw [this] at hz; exact absurd hz (by decide)
    have r1 := HR5.out
    have v0f := frozen_of_row w5 (w.heap.size + 1) 0 _ _ r1
    have v0 := cell_of_row w5 (w.heap.size + 1) 0 _ _ _ r1
    have HE := Lib.hid (HF.out (w5.setCell ⟨w.heap.size + 1, 0, none⟩ (.bool false)) hnl ((HB0.out.trans (HB5.out.mono HB0.out.size)).setCell (by show w.heap.size ≤ w.heap.size + 1; omega) _))
    have hzi : (0 : Int) < ((befK (gI F) 0 b).length : Int) := by omega
    generalize (befK (gI F) 0 b).length = z at *
    clear hnl hz
    go_wp2_with fail
    exact ⟨_, results_cell_bool rfl _ _ (w.heap.size + 1) false rfl (cell_of_row _ _ 0 _ _ _ (heap_setCell_same w5 _ 0 _ _ _ r1)), HE.out⟩
   have HZ0 := Lib.hid (List.length_eq_zero_iff.1 (show (befK (gI F) 0 b).length = 0 by omega))
   have hz2 : ¬ (0 : Int) < ((befK (gI F) 0 b).length : Int) := by omega
   have HIw5 := Lib.hid (HI.out.below HB5.out)
   have d0 := keep HG0.out HB5.out; have d1 := keep HG1.out HB5.out; have d2 := keep HG2.out HB5.out; have d3 := keep HG3.out HB5.out
   generalize (befK (gI F) 0 b).length = z at *
   clear hz
   go_wp2_with fail
   refine (HAl.out _).mono ?_; rintro e w6 ⟨rfl, rfl⟩
   clear d0 d1 d2 d3 hz2
   go_wp2_with fail
   have hba : Below w5.heap.size w5 (w5.alloc (.cells #[.slice pa F.ps.length pc, .int .i64 F.ret, .slice sa F.sl.length sc, .slice ba b bc] 31)) := (Below.refl _ _).alloc (Nat.le_refl _) _
   have hfn : (w5.alloc (.cells #[.slice pa F.ps.length pc, .int .i64 F.ret, .slice sa F.sl.length sc, .slice ba b bc] 31)).heap[w5.heap.size]? = some ((.cells #[.slice pa F.ps.length pc, .int .i64 F.ret, .slice sa F.sl.length sc, .slice ba b bc] 31) : Obj) := heap_alloc_new _ _
   have HB6 := Lib.hid (HB5.out.trans (hba.mono HB5.out.size))
   have HR6 := Lib.hid ((hba.block _ (lt_of_block HR5.out)).trans HR5.out)
   have HC76 := Lib.hid (keep HC75.out hba)
   have HRw6 := Lib.hid (HRw5.out.below hba)
   have hBs : w5.heap.size < (w5.alloc (.cells #[.slice pa F.ps.length pc, .int .i64 F.ret, .slice sa F.sl.length sc, .slice ba b bc] 31)).heap.size := by simp
   clear hba
   generalize w5.alloc _ = w6 at *
   generalize w5.heap.size = Bs at *
   have HIw6 := Lib.hid (HI.out.below HB6.out)
   obtain ⟨E, hE⟩ := HIw6.out.bs.places
   have g0 := cell_of_row _ _ 0 _ _ _ hfn; have g3 := cell_of_row _ _ 3 _ _ _ hfn
   have hbl : F.bs.length ≤ 1000 := by rw [HN.out]; omega
   have hbn : ∀ k, k < F.bs.length → (atBk F.bs k).length ≤ 1000 := fun k hk => Nat.le_trans (HSm.out.ins k hk) (by omega)
   have hpl := HSm.out.ps
   have HE2 := Lib.hid hE
   have HLk := Lib.hid (fun k h => locI_is F.bs k h)
   refine (wpIn_wide (n := 3)).1 ?_
   refine range_test (p := 83) (s := 10) F ⟨pa, pc, sa, sc, ba, bc⟩ E Bs (w.heap.size + 1) w.heap.size (.bool false) (.bool false) 4 (fun k => phiOk F (locI F.bs k).1 (locI F.bs k).2) rfl hbl hbn (by omega) hE hBs g0 (by rw [HN.out]; exact g3) HR6.out (Nat.le_succ _) ?assign ?body ?done ?stop
   case assign =>
    intro l k W K hK
    gi_wp2
    exact hK
   case body =>
    intro l k W Bx hbW hP hk hBx hx
    obtain ⟨l1, l2, l3, l4⟩ := HLk.out k hk
    clear l4
    have HPe : Hid (phiOk F (locI F.bs k).1 (locI F.bs k).2 ↔ ((xI F k).op = 28 → (xI F k).tt = befK (gI F) (locI F.bs k).1 b)) := Lib.hid (by unfold phiOk; rw [HN.out])
    obtain ⟨_, _, _, _, hu1, hu2, hblk⟩ := (HE2.out.below hbW) _ l1
    obtain ⟨_, _, hu3, hxx⟩ := hblk _ l2
    have HTt : Hid (IntsIn W (eI F E k).ta (xI F k).tt) := Lib.hid hxx.it
    clear hblk hxx hu1 hu2 hu3
    rw [HN.out] at l1
    have htl : (xI F k).tt.length ≤ 40 := (HSm.out.ars (locI F.bs k).1 (locI F.bs k).2 (by rw [HN.out]; exact l1) l2).2
    have x0 := hx.cell.1; have x5 := hx.cell.2.2.2.2.2.1; have x7 := hx.cell.2.2.2.2.2.2.2.1
    have HXc := Lib.hid hx
    have HC7w := Lib.hid (keep HC76.out hbW)
    have HRww := Lib.hid (HRw6.out.below hbW)
    have c7 := HC7w.out
    have HRr := Lib.hid ((hbW.block _ (lt_of_block HR6.out)).trans HR6.out)
    clear hx hP
    generalize phiOk F (locI F.bs k).1 (locI F.bs k).2 = Ph at *
    generalize xI F k = x at *
    generalize eI F E k = ee at *
    generalize (locI F.bs k).1 = bk at *
    generalize (locI F.bs k).2 = ik at *
    by_cases h28 : x.op = 28
    rotate_left
    ·have q28 : (x.op != 28) = true := bne_iff_ne.2 h28
     have HPy := Lib.hid (HPe.out.2 (fun h => absurd h h28))
     clear h28
     gi_wp2_with fail
     exact ⟨Below.refl _ _, HPy.out⟩
    have q28 : (x.op != 28) = false := by simp [h28]
    have HPe2 : Hid (Ph ↔ x.tt = befK (gI F) bk b) := Lib.hid (by rw [HPe.out]; exact ⟨fun h => h h28, fun h _ => h⟩)
    have HBfw := Lib.hid (HBf.out bk ga gc W l1 HRww.out)
    have htl2 : x.tt.length ≤ 40 := htl
    clear h28 HPe
    gi_wp2_with fail
    refine ⟨trivial, ?_⟩
    refine (CallsIn.inRound l (callsIn_wide.2 HBfw.out)).mono ?_; rintro e w8 ⟨⟨c1, d1, rfl, hi1⟩, hb8⟩
    have HB8 := Lib.hid hb8
    have x5 := keep x5 hb8
    have HR8 := Lib.hid ((hb8.block _ (lt_of_block HRr.out)).trans HRr.out)
    have HEq := Lib.hid (equalI_any (befK (gI F) bk b) x.tt c1 ee.ta d1 ee.ct w8 hi1 (HTt.out.below hb8) (by have := befK_len (gI F) bk b; omega))
    clear hi1 hb8 c7 x7
    generalize hdd : decide (befK (gI F) bk b = x.tt) = dd at *
    have HDd := Lib.hid hdd; clear hdd
    generalize (befK (gI F) bk b).length = z1 at *
    gi_wp2_with fail
    refine ⟨trivial, ?_⟩
    refine (CallsIn.inRound l (callsIn_wide.2 HEq.out)).mono ?_; rintro e w9 ⟨rfl, q9, rfl⟩
    have HB9 := Lib.hid (below_drewN HB8.out q9)
    have r9 : (w8.drewN q9).heap[w.heap.size + 1]? = some (.cells #[.bool false] 4 (0, 0)) := HR8.out
    have v9f := frozen_of_row (w8.drewN q9) (w.heap.size + 1) 0 _ _ r9
    have v9 := cell_of_row (w8.drewN q9) (w.heap.size + 1) 0 _ _ _ r9
    clear x5
    cases dd
    ·have HNp : Hid (¬ Ph) := Lib.hid fun h => by
      have := of_decide_eq_false HDd.out
      exact this (HPe2.out.1 h).symm
     gi_wp2_with fail
     exact ⟨⟨_, HB9.out, rfl⟩, HNp.out⟩
    ·have HYp := Lib.hid (HPe2.out.2 (of_decide_eq_true HDd.out).symm)
     gi_wp2_with fail
     exact ⟨HB9.out, HYp.out⟩
   case done =>
    intro D W hD hbW hall hK
    have HLd := Lib.hid (laid_of HBlk.out (by rw [HN.out]; exact HZ0.out) hall)
    have rD := (hbW.block _ (lt_of_block HR6.out)).trans HR6.out
    have vDf := frozen_of_row W (w.heap.size + 1) 0 _ _ rD
    have vD := cell_of_row W (w.heap.size + 1) 0 _ _ _ rD
    have HBW := Lib.hid (HB0.out.trans ((HB6.out.trans (hbW.mono HB6.out.size)).mono HB0.out.size))
    have HDz := Lib.hid (show w.heap.size ≤ D from Nat.le_trans (HB0.out.trans (HB6.out.mono HB0.out.size)).size hD)
    have HKd : Hid ((W.setCell ⟨w.heap.size + 1, 0, none⟩ (.bool true)).heap[D]? = some (.deferred (some []))) := Lib.hid (by
     rw [Below.heap_setCell _ _ _ _ (fun e => by
      have e : D = w.heap.size + 1 := e
      rw [e, rD] at hK; cases hK)]; exact hK)
    clear hbW hall hK
    go_wp2_with fail
    exact leave_bool w rfl rfl HKd.out (cell_of_row _ _ 0 _ _ _ (heap_setCell_same W _ 0 _ _ _ rD)) (HBW.out.setCell (by show w.heap.size ≤ w.heap.size + 1; omega) _) HDz.out (fun W' h => HT.out W' HLd.out h)
   case stop =>
    intro D k W hD hk hp hbW hc hK
    have HLn := Lib.hid (laid_not hk hp)
    have HKd := Lib.hid hK
    have HDz := Lib.hid (show w.heap.size ≤ D from Nat.le_trans (HB0.out.trans (HB6.out.mono HB0.out.size)).size hD)
    have HWw := Lib.hid ((HB0.out.trans (HB6.out.mono HB0.out.size)).trans hbW)
    have HCc := Lib.hid hc
    clear hk hp
    gi_wp2_with fail
    exact leave_bool w rfl rfl HKd.out HCc.out HWw.out HDz.out (fun W' h => HF.out W' HLn.out h)
  have hbi : (b : Int) < (n : Int) := by omega
  obtain ⟨b1, o1, a1, cp1, ha, hc, hins⟩ := (HI.out.below hbw).bs b (by rw [HN.out]; exact hlt)
  have hm100 := HSm.out.ins b (by rw [HN.out]; exact hlt)
  have HIn := Lib.hid hins
  have HNotB : Hid (¬ blkOk (atBk F.bs b) → ¬ laidP F) := Lib.hid fun h1 h2 => h1 (h2.1 b (by rw [HN.out]; exact hlt))
  have HNx : Hid (blkOk (atBk F.bs b) → ∀ c, c < b + 1 → blkOk (atBk F.bs c)) := Lib.hid fun h c hc => by
   by_cases e : c = b
   ·subst e; exact h
   ·exact HAll.out c (by omega)
  obtain rfl : ba = _ := ha
  have r1 := (hbw.block _ (lt_of_block HR1.out)).trans HR1.out
  have v0f := frozen_of_row wo (w.heap.size + 1) 0 _ _ r1
  have v0 := cell_of_row wo (w.heap.size + 1) 0 _ _ _ r1
  have HLo := Lib.hid (keep HG3.out hbw)
  have HCo := Lib.hid hc
  clear hins
  generalize hll : atBk F.bs b = l at *
  have HL := Lib.hid hll; clear hll
  by_cases h0 : l.length = 0
  ·have HE := Lib.hid (HF.out (wo.setCell ⟨w.heap.size + 1, 0, none⟩ (.bool false)) (HNotB.out (fun h => absurd (show 0 < l.length from h.1) (by omega))) ((HB0.out.trans (hbw.mono HB0.out.size)).setCell (by show w.heap.size ≤ w.heap.size + 1; omega) _))
   have q0 : ((l.length : Int) == 0) = true := by rw [beq_iff_eq]; omega
   generalize l.length = m at *
   clear h0
   go_wp2_with fail
   exact ⟨_, results_cell_bool rfl _ _ (w.heap.size + 1) false rfl (cell_of_row _ _ 0 _ _ _ (heap_setCell_same wo _ 0 _ _ _ r1)), HE.out⟩
  have q0 : ((l.length : Int) == 0) = false := by rw [beq_eq_false_iff_ne]; omega
  have q0n : ¬ (l.length : Int) = 0 := by omega
  obtain ⟨b2, o2, aa, ta, ca, ct, rfl, hx⟩ := HIn.out (l.length - 1) (by omega)
  have hxx : atI l (l.length - 1) = lasI l := rfl
  rw [hxx] at hx
  have HNl : Hid (isLst (lasI l).op = false → ¬ laidP F) := Lib.hid fun h => HNotB.out fun h2 => by
   have := blk_last h2
   rw [h] at this; cases this
  have HLl : Hid (isLst (lasI l).op = true → isLst (atI l (l.length - 1)).op = true) := Lib.hid fun h => h
  have HIp : Hid (∀ j, j < l.length → ∃ aa ta ca ct, InsAt wo b2 (o2 + j * 6) (atI l j) aa ta ca ct) := Lib.hid fun j hj => by
   obtain ⟨b3, o3, aa, ta, ca, ct, e, h⟩ := HIn.out j hj
   cases e
   exact ⟨aa, ta, ca, ct, h⟩
  have HBk : Hid (blkOkA l l.length → blkOk l) := Lib.hid fun h => ⟨by omega, h⟩
  have HBkn : Hid (¬ blkOkA l l.length → ¬ laidP F) := Lib.hid fun h => HNotB.out fun h2 => h h2.2
  have HLop := Lib.hid (HLa.out (lasI l).op)
  have x0 := hx.c0
  clear hx hxx h0
  generalize hm : l.length = m at *
  have HM := Lib.hid hm; clear hm
  have hsub : wrap64 ((m : Int) - 1) = (m : Int) - 1 := IntWalk.wrap64_in _ (by omega)
  have hix : ((m : Int) - 1).toNat = m - 1 := by omega
  have hi0 : (0 : Int) ≤ (m : Int) - 1 := by omega
  have hi1 : (m : Int) - 1 < (m : Int) := by omega
  generalize (lasI l).op = lop at *
  generalize hlb : isLst lop = lb at *
  clear hlb
  cases lb
  ·have HE := Lib.hid (HF.out (wo.setCell ⟨w.heap.size + 1, 0, none⟩ (.bool false)) (HNl.out rfl) ((HB0.out.trans (hbw.mono HB0.out.size)).setCell (by show w.heap.size ≤ w.heap.size + 1; omega) _))
   clear q0n
   go_wp2_with fail
   refine (HLop.out _).mono ?_; rintro e w5 ⟨rfl, rfl⟩
   go_wp2_with fail
   exact ⟨_, results_cell_bool rfl _ _ (w.heap.size + 1) false rfl (cell_of_row _ _ 0 _ _ _ (heap_setCell_same wo _ 0 _ _ _ r1)), HE.out⟩
  have HLast := Lib.hid (HLl.out rfl)
  have HZo := Lib.hid (hbw.size)
  clear hbw r1 v0f v0 q0n
  go_upto_region 6 with fail
  refine (HLop.out _).mono ?_; rintro e w5 ⟨rfl, rfl⟩
  go_upto_region 6 with fail
  clear x0 hc hi0 hi1 hix hsub q0
  go_wp2_with fail
  go_loopw [36] (fun i wr => ∃ k : Nat, k ≤ m ∧ i = .int .i64 k ∧ Hid (blkOkA l k) ∧ Below wo.heap.size wo wr) (fun i _ => m - (intOf i).toNat)
  case atStart => exact ⟨0, Nat.zero_le _, rfl, Lib.hid fun c hc => absurd hc (Nat.not_lt_zero _), Below.refl _ _⟩
  case round =>
   obtain ⟨k, hk, rfl, HK, hbk⟩ := hrel
   obtain ⟨wi, rfl⟩ : ∃ wi, wi = wr := ⟨_, rfl⟩
   have HBr := Lib.hid (HBw.out.trans (hbk.mono HBw.out.size))
   have HBk2 := Lib.hid hbk
   by_cases hlk : k < m
   rotate_left
   ·obtain rfl : k = m := by omega
    have HC2 := Lib.hid (HNx.out (HBk.out HK.out))
    clear hbk
    go_wp2_with fail
    go_roundw
    case rel => exact ⟨b + 1, by omega, by go_num, HC2, HBr.out⟩
    case measure => simp [intOf]; omega
   obtain ⟨xa, xt, xca, xct, hx⟩ := HIp.out k hlk
   have hki : (k : Int) < (m : Int) := by omega
   have hx := hx.below hbk
   have hbx : Below wi.heap.size wi (wi.alloc (.cells #[.int .i64 (atI l k).op, .int .i64 (atI l k).wd, .int .i64 (atI l k).fl, .slice xa (atI l k).ar.length xca, .int .u32 (atI l k).im, .slice xt (atI l k).tt.length xct] 63)) := (Below.refl _ _).alloc (Nat.le_refl _) _
   have HX := Lib.hid (insAt_new wi (atI l k) xa xt xca xct 63 hx.ia hx.it)
   have HBx := Lib.hid hbx
   have HRx := Lib.hid ((hbx.block _ (lt_of_block ((HBr.out.block _ (lt_of_block HR1.out)).trans HR1.out))).trans ((HBr.out.block _ (lt_of_block HR1.out)).trans HR1.out))
   obtain ⟨c0, c1, c2, c3, c4, c5, _, _⟩ := hx
   have HNk : Hid (¬ ((isLst (atI l k).op = decide ((k : Int) = (m : Int) - 1)) ∧ (0 < k → (atI l k).op = 28 → (atI l (k - 1)).op = 28)) → ¬ laidP F) := Lib.hid fun h1 => HBkn.out fun h2 => h1 (by
    have := h2 k hlk
    rwa [HM.out] at this)
   have HYk : Hid (((isLst (atI l k).op = decide ((k : Int) = (m : Int) - 1)) ∧ (0 < k → (atI l k).op = 28 → (atI l (k - 1)).op = 28)) → blkOkA l (k + 1)) := Lib.hid fun h j hj => by
    by_cases e : j = k
    ·rw [e, HM.out]; exact h
    ·exact HK.out j (by omega)
   clear hbk
   generalize hxx : atI l k = x at *
   have HXx := Lib.hid hxx; clear hxx
   go_upto_region 9 with fail
   clear c0 c1 c2 c3 c4 c5
   have HBkx := Lib.hid (HBk2.out.trans (HBx.out.mono HBk2.out.size))
   have HBrx := Lib.hid (HBr.out.trans (HBx.out.mono HBr.out.size))
   have HPv : Hid (0 < k → ∃ op2, op2 = (atI l (k - 1)).op ∧ (wi.alloc (.cells #[.int .i64 x.op, .int .i64 x.wd, .int .i64 x.fl, .slice xa x.ar.length xca, .int .u32 x.im, .slice xt x.tt.length xct] 63)).cell? ⟨b2, o2 + (k - 1) * 6, none⟩ = some (.int .i64 op2)) := Lib.hid fun h => by
    obtain ⟨_, _, _, _, hp⟩ := HIp.out (k - 1) (by omega)
    exact ⟨_, rfl, keep hp.c0 HBkx.out⟩
   generalize wi.alloc _ = wx at *
   generalize wi.heap.size = qx at *
   have x0 := HX.out.c0
   have HXo := Lib.hid (HLa.out x.op)
   have HEf : Hid (¬ laidP F → PP (Ending.returned (Value.bool false)) (wx.setCell ⟨w.heap.size + 1, 0, none⟩ (.bool false))) := Lib.hid fun h => HF.out _ h ((HB0.out.trans (HBrx.out.mono HB0.out.size)).setCell (by show w.heap.size ≤ w.heap.size + 1; omega) _)
   have r1 := HRx.out
   have v0f := frozen_of_row wx (w.heap.size + 1) 0 _ _ r1
   have v0 := cell_of_row wx (w.heap.size + 1) 0 _ _ _ r1
   have hsub : wrap64 ((m : Int) - 1) = (m : Int) - 1 := IntWalk.wrap64_in _ (by omega)
   generalize hop : x.op = op at *
   have HOp := Lib.hid hop; clear hop
   by_cases p1 : (k : Int) < (m : Int) - 1
   rotate_left
   ·have hke : k = m - 1 := by omega
    have hls : isLst op = true := by have := HLast.out; rw [← hke, HXx.out, HOp.out] at this; exact this
    have h28 : op ≠ 28 := fun e => by rw [e] at hls; exact absurd hls (by decide)
    have q28 : (op == 28) = false := by simp [h28]
    have HYn := Lib.hid (HYk.out ⟨by rw [hls, decide_eq_true (by omega)], fun _ h => absurd h h28⟩)
    clear hke hls h28
    go_wp2_with fail
    go_roundw
    case rel => exact ⟨k + 1, by omega, by go_num, HYn.out, HBkx.out⟩
    case measure => simp [intOf]; omega
   have hd : decide ((k : Int) = (m : Int) - 1) = false := decide_eq_false (by omega)
   rw [hd] at HYk HNk
   clear hd
   generalize hlb : isLst op = lb at *
   have HLb := Lib.hid hlb; clear hlb
   cases lb
   rotate_left
   ·have HE := Lib.hid (HEf.out (HNk.out (fun h => by cases h.1)))
    go_wp2_with fail
    refine (HXo.out _).mono ?_; rintro e w5 ⟨rfl, rfl⟩
    go_wp2_with fail
    exact ⟨_, results_cell_bool rfl _ _ (w.heap.size + 1) false rfl (cell_of_row _ _ 0 _ _ _ (heap_setCell_same wx _ 0 _ _ _ r1)), HE.out⟩
   have HDe : Hid (false = false) := Lib.hid rfl
   by_cases h28 : op = 28
   rotate_left
   ·have q28 : (op == 28) = false := by simp [h28]
    have HYn := Lib.hid (HYk.out ⟨HDe.out, fun _ h => absurd h h28⟩)
    clear h28
    go_wp2_with fail
    refine (HXo.out _).mono ?_; rintro e w5 ⟨rfl, rfl⟩
    go_wp2_with fail
    go_roundw
    case rel => exact ⟨k + 1, by omega, by go_num, HYn.out, HBkx.out⟩
    case measure => simp [intOf]; omega
   have q28 : (op == 28) = true := by simp [h28]
   by_cases hk0 : 0 < k
   rotate_left
   ·have qk : ¬ (0 : Int) < (k : Int) := by omega
    have HYn := Lib.hid (HYk.out ⟨HDe.out, fun h _ => absurd h hk0⟩)
    clear hk0 h28
    go_wp2_with fail
    refine (HXo.out _).mono ?_; rintro e w5 ⟨rfl, rfl⟩
    go_wp2_with fail
    go_roundw
    case rel => exact ⟨k + 1, by omega, by go_num, HYn.out, HBkx.out⟩
    case measure => simp [intOf]; omega
   have qk : (0 : Int) < (k : Int) := by omega
   obtain ⟨op2, hop2, p0⟩ := HPv.out hk0
   rw [← hop2] at HYk HNk
   have hsub2 : wrap64 ((k : Int) - 1) = (k : Int) - 1 := IntWalk.wrap64_in _ (by omega)
   have hix2 : ((k : Int) - 1).toNat = k - 1 := by omega
   have hj0 : (0 : Int) ≤ (k : Int) - 1 := by omega
   have hj1 : (k : Int) - 1 < (m : Int) := by omega
   clear hop2
   by_cases hp : op2 = 28
   ·have q29 : (op2 != 28) = false := by simp [hp]
    have HYn := Lib.hid (HYk.out ⟨HDe.out, fun _ _ => hp⟩)
    clear hp h28
    go_wp2_with fail
    refine (HXo.out _).mono ?_; rintro e w5 ⟨rfl, rfl⟩
    go_wp2_with fail
    go_roundw
    case rel => exact ⟨k + 1, by omega, by go_num, HYn.out, HBkx.out⟩
    case measure => simp [intOf]; omega
   ·have q29 : (op2 != 28) = true := bne_iff_ne.2 hp
    have HE := Lib.hid (HEf.out (HNk.out (fun h => hp (h.2 hk0 h28))))
    clear hp h28
    go_wp2_with fail
    refine (HXo.out _).mono ?_; rintro e w5 ⟨rfl, rfl⟩
    go_wp2_with fail
    exact ⟨_, results_cell_bool rfl _ _ (w.heap.size + 1) false rfl (cell_of_row _ _ 0 _ _ _ (heap_setCell_same wx _ 0 _ _ _ r1)), HE.out⟩
end Go.Proofs.YtbbbflnnbbaamaaGreatDoor.PK
namespace Go.Proofs.YtbbbflnnbbaamaaGreatDoor.PK
open Go.RowKit

structure TyC (w : World) (p4 p5 : Nat) (ar K : List Int) : Prop where
 ca : ∃ aa cap, w.cell? ⟨p4, 3, none⟩ = some (.slice aa ar.length cap) ∧ IntsIn w aa ar
 ck : ∃ ka cap, w.cell? ⟨p5, 0, none⟩ = some (.slice ka K.length cap) ∧ IntsIn w ka K
theorem TyC.below {w w' : World} {p4 p5 : Nat} {ar K : List Int} (h : TyC w p4 p5 ar K) (hb : Below w.heap.size w w') : TyC w' p4 p5 ar K := by
 obtain ⟨⟨aa, c, h1, h2⟩, ⟨ka, c2, h3, h4⟩⟩ := h
 exact ⟨⟨aa, c, keep h1 hb, h2.below hb⟩, ⟨ka, c2, keep h3 hb, h4.below hb⟩⟩
theorem ofI_lo {K : List Int} {v : Int} (h : v < 0) : ofI K v = -1 := if_neg (by omega)
theorem ofI_hi {K : List Int} {v : Int} (h : (K.length : Int) ≤ v) : ofI K v = -1 := if_neg (by omega)
theorem ofI_in {K : List Int} {v : Int} (h0 : 0 ≤ v) (h : v < (K.length : Int)) : ofI K v = K.getD v.toNat 0 := if_pos ⟨h0, h⟩
set_option maxHeartbeats 1000000 in
theorem typed1_any (ar K : List Int) (p4 p5 i : Nat) (w : World) (hc : TyC w p4 p5 ar K) (hi : i < ar.length) :
  Calls Tryz.prog 110 #[.int .i64 i, .pointer (some ⟨p4, 0, none⟩), .pointer (some ⟨p5, 0, none⟩)] w fun e w' => e = .returned (.int .i64 (ofI K (ar.getD i 0))) ∧ w = w' := by
 obtain ⟨⟨aa, c, h1, h2⟩, ⟨ka, c2, h3, h4⟩⟩ := hc
 obtain ⟨b, off, rfl, h5⟩ := h2 i hi
 have hii : (i : Int) < (ar.length : Int) := by omega
 have HLo := Lib.hid (fun h => ofI_lo (K := K) (v := ar.getD i 0) h)
 have HHi := Lib.hid (fun h => ofI_hi (K := K) (v := ar.getD i 0) h)
 have HIn := Lib.hid (fun h0 h => ofI_in (K := K) (v := ar.getD i 0) h0 h)
 have H4 := Lib.hid h4
 clear h2 h4
 generalize ofI K (ar.getD i 0) = R at *
 generalize ar.getD i 0 = y at *
 generalize ar.length = n at *
 go_enter Tryz.func110, Tryz.ntmps110
 by_cases y0 : y < 0
 ·obtain rfl := HLo.out y0
  go_wp2_with fail
  go_ret
  exact ⟨rfl, rfl⟩
 by_cases y1 : (K.length : Int) ≤ y
 ·obtain rfl := HHi.out y1
  go_wp2_with fail
  go_ret
  exact ⟨rfl, rfl⟩
 obtain rfl := HIn.out (by omega) (by omega)
 obtain ⟨j, rfl⟩ : ∃ j : Nat, y = (j : Int) := ⟨y.toNat, by omega⟩
 obtain ⟨b2, off2, rfl, h6⟩ := H4.out j (by omega)
 have y2 : (j : Int) < (K.length : Int) := by omega
 simp only [Int.toNat_natCast]
 generalize K.getD j 0 = z at *
 generalize K.length = m at *
 go_wp2_with fail
 go_ret
 exact ⟨rfl, rfl⟩
set_option maxHeartbeats 1000000 in
theorem typed2_any (ar K : List Int) (p4 p5 p7 : Nat) (k : Int) (w : World) (hc : TyC w p4 p5 ar K) (hf : w.cell? ⟨p7, 0, none⟩ = some (.func (.func 110) #[] #[.pointer (some ⟨p4, 0, none⟩), .pointer (some ⟨p5, 0, none⟩)])) (hl : ar.length ≤ 1000000) :
  Calls Tryz.prog 111 #[.int .i64 k, .pointer (some ⟨p4, 0, none⟩), .pointer (some ⟨p7, 0, none⟩)] w fun e w' => e = .returned (.bool ((ar.map (ofI K)).all fun z => decide (z = k))) ∧ w = w' := by
 have HO := Lib.hid (fun i hi => typed1_any ar K p4 p5 i w hc hi)
 obtain ⟨⟨aa, c, h1, h2⟩, _⟩ := hc
 have HN := Lib.hid (fun i (hi : i < ar.length) (h : ofI K (ar.getD i 0) ≠ k) => all_not (p := fun z => decide (z = k)) (l := ar.map (ofI K)) (k := i) (by simpa using hi) (decide_eq_false (by
  rw [show (ar.map (ofI K)).getD i 0 = ofI K (ar.getD i 0) by rw [List.getD_eq_getElem?_getD, List.getD_eq_getElem?_getD, List.getElem?_map, List.getElem?_eq_getElem hi]; rfl]; exact h)))
 have HY := Lib.hid (fun (h : ∀ i, i < ar.length → ofI K (ar.getD i 0) = k) => all_getD (p := fun z => decide (z = k)) (l := ar.map (ofI K)) (fun i hi => decide_eq_true (by
  rw [List.length_map] at hi
  rw [show (ar.map (ofI K)).getD i 0 = ofI K (ar.getD i 0) by rw [List.getD_eq_getElem?_getD, List.getD_eq_getElem?_getD, List.getElem?_map, List.getElem?_eq_getElem hi]; rfl]; exact h i hi)))
 clear h2
 generalize ((ar.map (ofI K)).all fun z => decide (z = k)) = R at *
 generalize hn : ar.length = n at *
 have HNn := Lib.hid hn; clear hn
 go_enter Tryz.func111, Tryz.ntmps111
 go_wp2_with fail
 go_loopw [9] (fun i wr => ∃ j : Nat, j ≤ n ∧ i = .int .i64 j ∧ Hid (∀ m, m < j → ofI K (ar.getD m 0) = k) ∧ w = wr) (fun i _ => n - (intOf i).toNat)
 case atStart => exact ⟨0, Nat.zero_le _, rfl, Lib.hid fun j hj => absurd hj (Nat.not_lt_zero _), rfl⟩
 case round =>
  obtain ⟨j, hj, rfl, HJ, rfl⟩ := hrel
  by_cases hlt : j < n
  rotate_left
  ·obtain rfl : j = n := by omega
   obtain rfl := HY.out HJ.out
   go_wp2_with fail
   go_ret
   exact ⟨rfl, rfl⟩
  have hji : (j : Int) < (n : Int) := by omega
  have HOj := Lib.hid (HO.out j hlt)
  have HNj := Lib.hid (HN.out j hlt)
  have HJx : Hid (ofI K (ar.getD j 0) = k → ∀ m, m < j + 1 → ofI K (ar.getD m 0) = k) := Lib.hid fun h m hm => by
   by_cases e : m = j
   ·subst e; exact h
   ·exact HJ.out m (by omega)
  generalize ofI K (ar.getD j 0) = z at *
  go_wp2_with fail
  refine HOj.out.mono ?_; rintro e w2 ⟨rfl, rfl⟩
  by_cases hz : z = k
  ·have q : (z != k) = false := by simp [hz]
   have HJy := Lib.hid (HJx.out hz)
   clear hz
   go_wp2_with fail
   go_roundw
   case rel => exact ⟨j + 1, by omega, by go_num, HJy, by trivial⟩
   case measure => simp [intOf]; omega
  ·have q : (z != k) = true := bne_iff_ne.2 hz
   obtain rfl := HNj.out hz
   clear hz
   go_wp2_with fail
   go_ret
   exact ⟨rfl, rfl⟩
end Go.Proofs.YtbbbflnnbbaamaaGreatDoor.PK
