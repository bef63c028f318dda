/- Packed of several texts. -/
import Derived.Test.YtbbbflnnbbaamaaGreatDoorH36
import Derived.Test.YtbbbflnnbbaamaaGreatDoorH37
import Derived.Test.YtbbbflnnbbaamaaGreatDoorH38
import Derived.Test.YtbbbflnnbbaamaaGreatDoorH39
import Derived.Test.YtbbbflnnbbaamaaGreatDoorH26
namespace Go.Proofs.YtbbbflnnbbaamaaGreatDoor.PK
open Go.RowKit

theorem rshape_ok : RShapeOK := fun F A x aa ta ca ct w hm _ ha => by
 by_cases h1 : 1 ≤ x.wd ∧ x.wd ≤ 32
 ·exact rshape_n F A x aa ta ca ct w hm ha h1
 ·by_cases h2 : x.wd = 33
  ·exact rshape_p F A x aa ta ca ct w hm ha h1 h2
  ·exact rshape_z F A x aa ta ca ct w hm ha h1 h2
theorem rargument_any (F : Fun) (A : FunA) (x : Ins) (aa ta : Option Addr) (ca ct : Nat) (w : World) (hit : IntsIn w ta x.tt) (hm : x.im < 4294967296) (hs : F.sl.length ≤ 1000) (ha : x.ar.length ≤ 1000) (ht : x.tt.length ≤ 1000) (hr : 0 ≤ F.ret) :
  Calls Tryz.prog 53 #[funV F A, insV x aa ta ca ct] w (ArgPost (shapeB F x) w) := rargument_of rshape_ok F A x aa ta ca ct w hit hm hs ha ht hr
end Go.Proofs.YtbbbflnnbbaamaaGreatDoor.PK
namespace Go.Proofs.YtbbbflnnbbaamaaGreatDoor.PK
open Go.RowKit

theorem head_no {F : Fun} (h : F.ret < 0 ∨ 32 < F.ret ∨ (∃ k, k < F.ps.length ∧ isNum (F.ps.getD k 0) = false) ∨ (∃ k, k < F.sl.length ∧ ¬ (1 ≤ F.sl.getD k 0 ∧ F.sl.getD k 0 ≤ 8))) : headB F = false := by
 unfold headB
 rcases h with h | h | ⟨k, hk, h⟩ | ⟨k, hk, h⟩
 ·rw [decide_eq_false (by omega), Bool.and_false, Bool.false_and]
 ·rw [decide_eq_false (by omega), Bool.and_false, Bool.false_and]
 ·rw [all_not hk h, Bool.false_and, Bool.false_and]
 ·rw [all_not (p := fun k => decide (1 ≤ k ∧ k ≤ 8)) hk (decide_eq_false h), Bool.and_false]
theorem head_yes {F : Fun} (h1 : 0 ≤ F.ret ∧ F.ret ≤ 32) (h2 : ∀ k, k < F.ps.length → isNum (F.ps.getD k 0) = true) (h3 : ∀ k, k < F.sl.length → 1 ≤ F.sl.getD k 0 ∧ F.sl.getD k 0 ≤ 8) : headB F = true := by
 unfold headB
 rw [all_getD h2, decide_eq_true h1, all_getD (p := fun k => decide (1 ≤ k ∧ k ≤ 8)) (fun k hk => decide_eq_true (h3 k hk))]; rfl
set_option maxRecDepth 100000 in
set_option maxHeartbeats 1000000 in
theorem rValidate_any (F : Fun) (A : FunA) (w : World) (hin : FunIn w F A) (hok : FunOk F) :
  Calls Tryz.prog 28 #[funV F A] w fun e w' => e = .returned (.int .i64 (errF F)) ∧ Below w.heap.size w w' := by
 have hs := hok.sm
 obtain ⟨pa, pc, sa, sc, ba, bc⟩ := A
 have hal : Below w.heap.size w (w.alloc (.cells #[.slice pa F.ps.length pc, .int .i64 F.ret, .slice sa F.sl.length sc, .slice ba F.bs.length bc] 31)) := (Below.refl _ _).alloc (Nat.le_refl _) _
 have HI := Lib.hid (hin.below hal)
 have hr0 : (w.alloc (.cells #[.slice pa F.ps.length pc, .int .i64 F.ret, .slice sa F.sl.length sc, .slice ba F.bs.length bc] 31)).heap[w.heap.size]? = some (.cells (funC F ⟨pa, pc, sa, sc, ba, bc⟩) 31 (0, 0)) := heap_alloc_new _ _
 obtain ⟨g0, g1, g2, g3⟩ := funC_at hr0
 have HB0 := Lib.hid hal; have HG0 := Lib.hid g0; have HG1 := Lib.hid g1; have HG2 := Lib.hid g2; have HG3 := Lib.hid g3
 have hsp := hs.ps; have hss := hs.sl; have hsb := hs.bs
 have HSm := Lib.hid hs; have HOk := Lib.hid hok
 have HSu := Lib.hid hs.sum
 have HSn := Lib.hid (fun k h => sumI_succ (ls := F.bs) (k := k) h)
 have HLr : Hid ((3 < F.ps.length ∨ 2 < F.sl.length ∨ F.bs.length < 1 ∨ 10 < F.bs.length ∨ 40 < sumI F.bs F.bs.length) → errF F = 3) := Lib.hid fun h => errF_lrg (by
  unfold lrgB; simp only [Bool.or_eq_true, decide_eq_true_eq]; exact h)
 have HLo : Hid (¬ (3 < F.ps.length ∨ 2 < F.sl.length ∨ F.bs.length < 1 ∨ 10 < F.bs.length ∨ 40 < sumI F.bs F.bs.length) → lrgB F = false) := Lib.hid fun h => by
  rw [Bool.eq_false_iff]; intro h2; apply h
  unfold lrgB at h2; simpa only [Bool.or_eq_true, decide_eq_true_eq] using h2
 have HH1 := Lib.hid (fun h1 h => errF_head (F := F) h1 (head_no h))
 have HS1 := Lib.hid (fun h1 h2 h => errF_shp (F := F) h1 h2 h)
 have HL1 := Lib.hid (fun h1 h2 h3 h => errF_laid (F := F) h1 h2 h3 h)
 have HT1 := Lib.hid (fun h1 h2 h3 h4 h => errF_typ (F := F) h1 h2 h3 h4 h)
 have HU1 := Lib.hid (fun h1 h2 h3 h4 h5 h => errF_st (F := F) h1 h2 h3 h4 h5 h)
 have HZ1 := Lib.hid (fun h1 h2 h3 h4 h5 h => errF_ok (F := F) h1 h2 h3 h4 h5 h)
 have HWi := Lib.hid (fun n u => risWidth_any n u)
 have HAr := Lib.hid (fun (hr : 0 ≤ F.ret) (x : Ins) (aa ta : Option Addr) (ca ct : Nat) u (hit : IntsIn u ta x.tt) hm ha ht => rargument_any F ⟨pa, pc, sa, sc, ba, bc⟩ x aa ta ca ct u hit hm (by omega) ha ht hr)
 have HTy := Lib.hid (fun (x : Ins) (aa ta : Option Addr) (ca ct : Nat) u (h : FunIn u F ⟨pa, pc, sa, sc, ba, bc⟩) (hia : IntsIn u aa x.ar) har hsh => rtyped_any F ⟨pa, pc, sa, sc, ba, bc⟩ x aa ta ca ct u h hs hia har hsh)
 have HRu := Lib.hid (fun u (h : FunIn u F ⟨pa, pc, sa, sc, ba, bc⟩) => rules_any F ⟨pa, pc, sa, sc, ba, bc⟩ u h hs)
 have HSt := Lib.hid (fun u (h : FunIn u F ⟨pa, pc, sa, sc, ba, bc⟩) hg => stated_any F ⟨pa, pc, sa, sc, ba, bc⟩ u h hs hg)
 have HShp : Hid (shpP F ↔ ∀ b i, b < F.bs.length → i < (atBk F.bs b).length → shapeB F (insA F b i) = true) := Lib.hid Iff.rfl
 have HTyp : Hid (typP F ↔ ∀ b i, b < F.bs.length → i < (atBk F.bs b).length → rtyB (insA F b i).op (insA F b i).wd F.ret (ksI (kdsI F) (insA F b i)) = true) := Lib.hid Iff.rfl
 generalize errF F = R at *
 clear hin hal hr0 hs hok
 simp only [funV, funC, insV] at HAr HTy HRu HSt g0 g1 g2 g3 HG0 HG1 HG2 HG3 ⊢
 generalize hn : F.bs.length = n at *
 have HN := Lib.hid hn; clear hn
 generalize hnp : F.ps.length = np at *
 have HNp := Lib.hid hnp; clear hnp
 generalize hns : F.sl.length = ns at *
 have HNs := Lib.hid hns; clear hns
 go_enter Tryz.func28, Tryz.ntmps28
 go_upto_region 1 with fail
 generalize (w.alloc _) = w1 at *
 by_cases a1 : 3 < np
 ·obtain rfl := HLr.out (.inl a1)
  go_wp2_with fail
  go_ret
  exact ⟨rfl, HB0.out⟩
 by_cases a2 : 2 < ns
 ·obtain rfl := HLr.out (.inr (.inl a2))
  go_wp2_with fail
  go_ret
  exact ⟨rfl, HB0.out⟩
 by_cases a3 : n < 1
 ·obtain rfl := HLr.out (.inr (.inr (.inl a3)))
  go_wp2_with fail
  go_ret
  exact ⟨rfl, HB0.out⟩
 by_cases a4 : 10 < n
 ·obtain rfl := HLr.out (.inr (.inr (.inr (.inl a4))))
  go_wp2_with fail
  go_ret
  exact ⟨rfl, HB0.out⟩
 have h10 : ¬ 10 < n := a4
 go_wp2_with fail
 clear g0 g1 g2
 go_loopw [3, 4] (fun v i wr => ∃ k : Nat, k ≤ n ∧ i = .int .i64 k ∧ v = .int .i64 (sumI F.bs k : Nat) ∧ w1 = wr) (fun _ i _ => n - (intOf i).toNat)
 case atStart => exact ⟨0, Nat.zero_le _, rfl, by simp [sumI], rfl⟩
 case round =>
  obtain ⟨k, hk, rfl, rfl, rfl⟩ := hrel
  by_cases hlt : k < n
  ·have hki : (k : Int) < (n : Int) := by omega
   obtain ⟨b, off, a', cap, ha, hc, _⟩ := HI.out.bs k (by rw [HN.out]; exact hlt)
   have hm := HSm.out.ins k (by rw [HN.out]; exact hlt)
   have hsu := HSu.out k (by omega)
   have HSk := Lib.hid (HSn.out k hlt)
   have g3 := HG3.out
   obtain rfl : ba = _ := ha
   generalize (atBk F.bs k).length = m at *
   generalize hss2 : sumI F.bs k = sk at *
   clear hss2
   go_wp2_with fail
   go_roundw
   case rel => exact ⟨k + 1, by omega, by go_num, by rw [HSk.out]; simp, by trivial⟩
   case measure => simp [intOf]; omega
  obtain rfl : k = n := by omega
  have hsum := HSu.out k (Nat.le_refl _)
  by_cases a5 : 40 < sumI F.bs k
  ·obtain rfl := HLr.out (.inr (.inr (.inr (.inr a5))))
   generalize sumI F.bs k = sk at *
   go_wp2_with fail
   go_ret
   exact ⟨rfl, HB0.out⟩
  have HLg := Lib.hid (HLo.out (by omega))
  have hsn : ¬ (40 : Int) < (sumI F.bs k : Nat) := by omega
  generalize sumI F.bs k = sk at *
  go_upto_region 10 with fail
  clear a5 hsn hsum hk
  have g1 := HG1.out
  by_cases r1 : F.ret < 0
  ·obtain rfl := HH1.out HLg.out (.inl r1)
   go_wp2_with fail
   go_ret
   exact ⟨rfl, HB0.out⟩
  by_cases r2 : 32 < F.ret
  ·obtain rfl := HH1.out HLg.out (.inr (.inl r2))
   go_wp2_with fail
   go_ret
   exact ⟨rfl, HB0.out⟩
  have HRet : Hid (0 ≤ F.ret ∧ F.ret ≤ 32) := Lib.hid (by omega)
  go_upto_region 12 with fail
  clear g1 r1 r2
  have g0 := HG0.out
  go_wp2_with fail
  go_loopw [5] (fun i wr => ∃ j : Nat, j ≤ np ∧ i = .int .i64 j ∧ Hid (∀ m, m < j → isNum (F.ps.getD m 0) = true) ∧ w1 = wr) (fun i _ => np - (intOf i).toNat)
  case atStart => exact ⟨0, Nat.zero_le _, rfl, Lib.hid fun j hj => absurd hj (Nat.not_lt_zero _), rfl⟩
  case round =>
   obtain ⟨j, hj, rfl, HJ, rfl⟩ := hrel
   by_cases hlj : j < np
   ·have hji : (j : Int) < (np : Int) := by omega
    obtain ⟨b, off, ha, hc⟩ := HI.out.ps j (by rw [HNp.out]; exact hlj)
    have g0 := HG0.out
    obtain rfl : pa = _ := ha
    have HNo := Lib.hid (fun h => HH1.out HLg.out (.inr (.inr (.inl ⟨j, hlj, h⟩))))
    have HYe : Hid (isNum (F.ps.getD j 0) = true → ∀ m, m < j + 1 → isNum (F.ps.getD m 0) = true) := Lib.hid fun h m hm => by
     by_cases e : m = j
     ·subst e; exact h
     ·exact HJ.out m (by omega)
    have HW := Lib.hid (HWi.out (F.ps.getD j 0))
    generalize isNum (F.ps.getD j 0) = bb at *
    generalize F.ps.getD j 0 = y at *
    go_wp2_with fail
    refine (HW.out _).mono ?_; rintro e w2 ⟨rfl, rfl⟩
    cases bb
    ·obtain rfl := HNo.out rfl
     go_wp2_with fail
     go_ret
     exact ⟨rfl, HB0.out⟩
    ·have HYy := Lib.hid (HYe.out rfl)
     go_wp2_with fail
     go_roundw
     case rel => exact ⟨j + 1, by omega, by go_num, HYy, by trivial⟩
     case measure => simp [intOf]; omega
   obtain rfl : j = np := by omega
   go_upto_region 17 with fail
   have g2 := HG2.out
   clear g0 hj
   go_wp2_with fail
   go_loopw [6] (fun i wr => ∃ q : Nat, q ≤ ns ∧ i = .int .i64 q ∧ Hid (∀ m, m < q → 1 ≤ F.sl.getD m 0 ∧ F.sl.getD m 0 ≤ 8) ∧ w1 = wr) (fun i _ => ns - (intOf i).toNat)
   case atStart => exact ⟨0, Nat.zero_le _, rfl, Lib.hid fun j hj => absurd hj (Nat.not_lt_zero _), rfl⟩
   case round =>
    obtain ⟨q, hq, rfl, HQ, rfl⟩ := hrel
    by_cases hlq : q < ns
    ·have hqi : (q : Int) < (ns : Int) := by omega
     obtain ⟨b, off, ha, hc⟩ := HI.out.sl q (by rw [HNs.out]; exact hlq)
     have g2 := HG2.out
     obtain rfl : sa = _ := ha
     have HNo := Lib.hid (fun h => HH1.out HLg.out (.inr (.inr (.inr ⟨q, hlq, h⟩))))
     have HYe : Hid ((1 ≤ F.sl.getD q 0 ∧ F.sl.getD q 0 ≤ 8) → ∀ m, m < q + 1 → 1 ≤ F.sl.getD m 0 ∧ F.sl.getD m 0 ≤ 8) := Lib.hid fun h m hm => by
      by_cases e : m = q
      ·subst e; exact h
      ·exact HQ.out m (by omega)
     generalize F.sl.getD q 0 = y at *
     by_cases y1 : y < 1
     ·obtain rfl := HNo.out (by omega)
      go_wp2_with fail
      go_ret
      exact ⟨rfl, HB0.out⟩
     by_cases y2 : 8 < y
     ·obtain rfl := HNo.out (by omega)
      go_wp2_with fail
      go_ret
      exact ⟨rfl, HB0.out⟩
     have HYy := Lib.hid (HYe.out (by omega))
     go_wp2_with fail
     go_roundw
     case rel => exact ⟨q + 1, by omega, by go_num, HYy, by trivial⟩
     case measure => simp [intOf]; omega
    obtain rfl : q = ns := by omega
    have HHd : Hid (headB F = true) := Lib.hid (head_yes HRet.out (fun k hk => HJ.out k (by rw [HNp.out] at hk; exact hk)) (fun k hk => HQ.out k (by rw [HNs.out] at hk; exact hk)))
    go_upto_region 22 with fail
    have g3 := HG3.out
    clear g2 hq
    go_wp2_with fail
    go_loopw [7] (fun i wr => ∃ b : Nat, b ≤ k ∧ i = .int .i64 b ∧ Hid (∀ c, c < b → ∀ i, i < (atBk F.bs c).length → shapeB F (insA F c i) = true) ∧ Below w1.heap.size w1 wr) (fun i _ => k - (intOf i).toNat)
    case atStart => exact ⟨0, Nat.zero_le _, rfl, Lib.hid fun j hj => absurd hj (Nat.not_lt_zero _), Below.refl _ _⟩
    case round =>
     obtain ⟨b, hb, rfl, HAll, hbw⟩ := hrel
     have HBw := Lib.hid hbw
     obtain ⟨wo, rfl⟩ : ∃ wo, wo = wr := ⟨_, rfl⟩
     have g3 := keep HG3.out hbw
     by_cases hlt : b < k
     ·have hbi : (b : Int) < (k : Int) := by omega
      obtain ⟨b1, o1, a1, cp1, ha, hc, hins⟩ := (HI.out.below hbw).bs b (by rw [HN.out]; exact hlt)
      have hm100 := HSm.out.ins b (by rw [HN.out]; exact hlt)
      have HIn := Lib.hid hins
      have HNx : Hid ((∀ i, i < (atBk F.bs b).length → shapeB F (insA F b i) = true) → ∀ c, c < b + 1 → ∀ i, i < (atBk F.bs c).length → shapeB F (insA F c i) = true) := Lib.hid fun h c hc => by
       by_cases e : c = b
       ·subst e; exact h
       ·exact HAll.out c (by omega)
      obtain rfl : ba = _ := ha
      have HCo := Lib.hid hc; have HLo := Lib.hid g3
      clear hins hbw
      generalize hm : (atBk F.bs b).length = m at *
      have HM := Lib.hid hm; clear hm
      go_wp2_with fail
      clear hc g3
      go_loopw [8] (fun i wr => ∃ d : Nat, d ≤ m ∧ i = .int .i64 d ∧ Hid (∀ i, i < d → shapeB F (insA F b i) = true) ∧ Below wo.heap.size wo wr) (fun i _ => m - (intOf i).toNat)
      case atStart => exact ⟨0, Nat.zero_le _, rfl, Lib.hid fun j hj => absurd hj (Nat.not_lt_zero _), Below.refl _ _⟩
      case round =>
       obtain ⟨d, hd, rfl, HK, hbk⟩ := hrel
       have HBk := Lib.hid hbk
       have HBr := Lib.hid (HBw.out.trans (hbk.mono HBw.out.size))
       have l3 := keep HLo.out hbk; have hc := keep HCo.out hbk
       by_cases hld : d < m
       rotate_left
       ·obtain rfl : d = m := by omega
        have HC2 := Lib.hid (HNx.out (fun j hj => HK.out j hj))
        clear hbk
        go_wp2_with fail
        go_roundw
        case rel => exact ⟨b + 1, by omega, by go_num, HC2, HBr.out⟩
        case measure => simp [intOf]; omega
       have hdi : (d : Int) < (m : Int) := by omega
       obtain ⟨b2, o2, aa, ta, ca, ct, rfl, hx⟩ := (HIn.out.below hbk) d (by rw [HM.out]; exact hld)
       obtain ⟨har, htt⟩ := HSm.out.ars b d (by rw [HN.out]; exact hlt) (by rw [HM.out]; exact hld)
       have him := HOk.out.im b d (by rw [HN.out]; exact hlt) (by rw [HM.out]; exact hld)
       have HKx : Hid (shapeB F (atI (atBk F.bs b) d) = true → ∀ i, i < d + 1 → shapeB F (insA F b i) = true) := Lib.hid fun h i hi => by
        by_cases e : i = d
        ·subst e; exact h
        ·exact HK.out i (by omega)
       have HNo : Hid (shapeB F (atI (atBk F.bs b) d) = false → R = 1) := Lib.hid fun h => HS1.out HLg.out HHd.out fun hp => by
        have := HShp.out.1 hp b d hlt (by rw [HM.out]; exact hld)
        rw [h] at this; cases this
       have HIw := Lib.hid ((HI.out.below HBr.out).below ((Below.refl _ _).drew))
       have HXi := Lib.hid (hx.below ((Below.refl _ _).drew))
       have f0 := keep HG0.out HBr.out; have f1 := keep HG1.out HBr.out; have f2 := keep HG2.out HBr.out
       obtain ⟨c0, c1, c2, c3, c4, c5, _, _⟩ := hx
       clear hbk
       have HCt := Lib.hid (HAr.out HRet.out.1 (atI (atBk F.bs b) d) aa ta ca ct wr.drew HXi.out.it him (by omega) (by omega))
       generalize hxx : atI (atBk F.bs b) d = x at *
       clear hxx
       generalize shapeB F x = bb at *
       go_upto_region 28 with fail
       go_still_tail 9, (by kernel_rfl)
       change wpList _ _ _ _ _ wr.drew
       go_wp2_with fail
       refine HCt.out.mono ?_; rintro e w5 ⟨rfl, hb5⟩
       have HB5 := Lib.hid (below_of_drew hb5)
       clear hb5 c0 c1 c2 c3 c4 c5 f0 f1 f2 l3 hc
       cases bb
       ·obtain rfl := HNo.out rfl
        have HE := Lib.hid (HB0.out.trans ((HBr.out.trans (HB5.out.mono HBr.out.size)).mono HB0.out.size))
        go_wp2_with fail
        go_ret
        exact ⟨rfl, HE.out⟩
       ·have HKn := Lib.hid (HKx.out rfl)
        go_wp2_with fail
        go_roundw
        case rel => exact ⟨d + 1, by omega, by go_num, HKn, HBk.out.trans (HB5.out.mono HBk.out.size)⟩
        case measure => simp [intOf]; omega
     obtain rfl : k = b := by omega
     have HShY : Hid (shpP F) := Lib.hid (HShp.out.2 fun c i hc hi => HAll.out c hc i hi)
     have HIw := Lib.hid (HI.out.below hbw)
     have g0 := keep HG0.out hbw; have g1 := keep HG1.out hbw; have g2 := keep HG2.out hbw
     have HRuw := Lib.hid (HRu.out wo HIw.out)
     clear hbw hb
     go_wp2_with fail
     refine HRuw.out.mono ?_; rintro e w5 ⟨⟨bb, rfl, hbb⟩, hb5⟩
     have HBb := Lib.hid hbb
     have HB5 := Lib.hid (HBw.out.trans (hb5.mono HBw.out.size))
     clear hb5 hbb g0 g1 g2 g3
     cases bb
     ·obtain rfl := HL1.out HLg.out HHd.out HShY.out (fun h => by have := HBb.out.2 h; cases this)
      have HE := Lib.hid (HB0.out.trans (HB5.out.mono HB0.out.size))
      go_wp2_with fail
      go_ret
      exact ⟨rfl, HE.out⟩
     have HLa : Hid (laidP F) := Lib.hid (HBb.out.1 rfl)
     have g3 := keep HG3.out HB5.out
     go_wp2_with fail
     go_loopw [9] (fun i wr => ∃ b : Nat, b ≤ k ∧ i = .int .i64 b ∧ Hid (∀ c, c < b → ∀ i, i < (atBk F.bs c).length → rtyB (insA F c i).op (insA F c i).wd F.ret (ksI (kdsI F) (insA F c i)) = true) ∧ Below w1.heap.size w1 wr) (fun i _ => k - (intOf i).toNat)
     case atStart => exact ⟨0, Nat.zero_le _, rfl, Lib.hid fun j hj => absurd hj (Nat.not_lt_zero _), HB5.out⟩
     case round =>
      obtain ⟨b, hb, rfl, HAll, hbw⟩ := hrel
      have HBw := Lib.hid hbw
      obtain ⟨wo, rfl⟩ : ∃ wo, wo = wr := ⟨_, rfl⟩
      have g3 := keep HG3.out hbw
      by_cases hlt : b < k
      ·have hbi : (b : Int) < (k : Int) := by omega
       obtain ⟨b1, o1, a1, cp1, ha, hc, hins⟩ := (HI.out.below hbw).bs b (by rw [HN.out]; exact hlt)
       have hm100 := HSm.out.ins b (by rw [HN.out]; exact hlt)
       have HIn := Lib.hid hins
       have HNx : Hid ((∀ i, i < (atBk F.bs b).length → rtyB (insA F b i).op (insA F b i).wd F.ret (ksI (kdsI F) (insA F b i)) = true) → ∀ c, c < b + 1 → ∀ i, i < (atBk F.bs c).length → rtyB (insA F c i).op (insA F c i).wd F.ret (ksI (kdsI F) (insA F c i)) = true) := Lib.hid fun h c hc => by
        by_cases e : c = b
        ·subst e; exact h
        ·exact HAll.out c (by omega)
       obtain rfl : ba = _ := ha
       have HCo := Lib.hid hc; have HLo := Lib.hid g3
       clear hins hbw
       generalize hm : (atBk F.bs b).length = m at *
       have HM := Lib.hid hm; clear hm
       go_wp2_with fail
       clear hc g3
       go_loopw [10] (fun i wr => ∃ d : Nat, d ≤ m ∧ i = .int .i64 d ∧ Hid (∀ i, i < d → rtyB (insA F b i).op (insA F b i).wd F.ret (ksI (kdsI F) (insA F b i)) = true) ∧ Below wo.heap.size wo wr) (fun i _ => m - (intOf i).toNat)
       case atStart => exact ⟨0, Nat.zero_le _, rfl, Lib.hid fun j hj => absurd hj (Nat.not_lt_zero _), Below.refl _ _⟩
       case round =>
        obtain ⟨d, hd, rfl, HK, hbk⟩ := hrel
        have HBk := Lib.hid hbk
        have HBr := Lib.hid (HBw.out.trans (hbk.mono HBw.out.size))
        have l3 := keep HLo.out hbk; have hc := keep HCo.out hbk
        by_cases hld : d < m
        rotate_left
        ·obtain rfl : d = m := by omega
         have HC2 := Lib.hid (HNx.out (fun j hj => HK.out j hj))
         clear hbk
         go_wp2_with fail
         go_roundw
         case rel => exact ⟨b + 1, by omega, by go_num, HC2, HBr.out⟩
         case measure => simp [intOf]; omega
        have hdi : (d : Int) < (m : Int) := by omega
        obtain ⟨b2, o2, aa, ta, ca, ct, rfl, hx⟩ := (HIn.out.below hbk) d (by rw [HM.out]; exact hld)
        obtain ⟨har, htt⟩ := HSm.out.ars b d (by rw [HN.out]; exact hlt) (by rw [HM.out]; exact hld)
        have him := HOk.out.im b d (by rw [HN.out]; exact hlt) (by rw [HM.out]; exact hld)
        have HKx : Hid (rtyB (atI (atBk F.bs b) d).op (atI (atBk F.bs b) d).wd F.ret (ksI (kdsI F) (atI (atBk F.bs b) d)) = true → ∀ i, i < d + 1 → rtyB (insA F b i).op (insA F b i).wd F.ret (ksI (kdsI F) (insA F b i)) = true) := Lib.hid fun h i hi => by
         by_cases e : i = d
         ·subst e; exact h
         ·exact HK.out i (by omega)
        have HNo : Hid (rtyB (atI (atBk F.bs b) d).op (atI (atBk F.bs b) d).wd F.ret (ksI (kdsI F) (atI (atBk F.bs b) d)) = false → R = 6) := Lib.hid fun h => HT1.out HLg.out HHd.out HShY.out HLa.out fun hp => by
         have := HTyp.out.1 hp b d hlt (by rw [HM.out]; exact hld)
         rw [h] at this; cases this
        have HShx : Hid (shapeB F (atI (atBk F.bs b) d) = true) := Lib.hid (HShp.out.1 HShY.out b d hlt (by rw [HM.out]; exact hld))
        have HIw := Lib.hid ((HI.out.below HBr.out).below ((Below.refl _ _).drew))
        have HXi := Lib.hid (hx.below ((Below.refl _ _).drew))
        have f0 := keep HG0.out HBr.out; have f1 := keep HG1.out HBr.out; have f2 := keep HG2.out HBr.out
        obtain ⟨c0, c1, c2, c3, c4, c5, _, _⟩ := hx
        clear hbk
        have HCt := Lib.hid (HTy.out (atI (atBk F.bs b) d) aa ta ca ct wr.drew HIw.out HXi.out.ia har HShx.out)
        clear HShx
        generalize hxx : atI (atBk F.bs b) d = x at *
        clear hxx
        generalize rtyB x.op x.wd F.ret (ksI (kdsI F) x) = bb at *
        go_upto_region 38 with fail
        go_still_tail 9, (by kernel_rfl)
        change wpList _ _ _ _ _ wr.drew
        go_wp2_with fail
        refine HCt.out.mono ?_; rintro e w5 ⟨rfl, hb5⟩
        have HB5 := Lib.hid (below_of_drew hb5)
        clear hb5 c0 c1 c2 c3 c4 c5 f0 f1 f2 l3 hc
        cases bb
        ·obtain rfl := HNo.out rfl
         have HE := Lib.hid (HB0.out.trans ((HBr.out.trans (HB5.out.mono HBr.out.size)).mono HB0.out.size))
         go_wp2_with fail
         go_ret
         exact ⟨rfl, HE.out⟩
        ·have HKn := Lib.hid (HKx.out rfl)
         go_wp2_with fail
         go_roundw
         case rel => exact ⟨d + 1, by omega, by go_num, HKn, HBk.out.trans (HB5.out.mono HBk.out.size)⟩
         case measure => simp [intOf]; omega
      obtain rfl : k = b := by omega
      have HTyY : Hid (typP F) := Lib.hid (HTyp.out.2 fun c i hc hi => HAll.out c hc i hi)
      have HIw := Lib.hid (HI.out.below hbw)
      have g0 := keep HG0.out hbw; have g1 := keep HG1.out hbw; have g2 := keep HG2.out hbw
      have HStw := Lib.hid (HSt.out wo HIw.out (gr_ok (by rw [HN.out]; omega) (by rw [HN.out]; omega) HShY.out HLa.out))
      clear hbw hb
      go_wp2_with fail
      refine HStw.out.mono ?_; rintro e w5 ⟨⟨bb, rfl, hbb⟩, hb5⟩
      have HBb := Lib.hid hbb
      have HB5 := Lib.hid (HBw.out.trans (hb5.mono HBw.out.size))
      have HE := Lib.hid (HB0.out.trans (HB5.out.mono HB0.out.size))
      clear hb5 hbb g0 g1 g2 g3
      cases bb
      ·obtain rfl := HU1.out HLg.out HHd.out HShY.out HLa.out HTyY.out (fun h => by have := HBb.out.2 h; cases this)
       go_wp2_with fail
       go_ret
       exact ⟨rfl, HE.out⟩
      ·obtain rfl := HZ1.out HLg.out HHd.out HShY.out HLa.out HTyY.out (HBb.out.1 rfl)
       go_wp2_with fail
       go_ret
       exact ⟨rfl, HE.out⟩

end Go.Proofs.YtbbbflnnbbaamaaGreatDoor.PK
