/- Packed of several texts. -/
import Derived.Test.YtbbbflnnbbaamaaGreatDoorH19
import Derived.Test.YtbbbflnnbbaamaaGreatDoorH20
import Derived.Test.YtbbbflnnbbaamaaGreatDoorH15
namespace Go.Proofs.YtbbbflnnbbaamaaGreatDoor.PK
open Go.RowKit

def argOk (F : Fun) (b i k : Nat) : Prop :=
 if (atI (atBk F.bs b) i).op = 28 then (FL.rs (FL.gN (gI F)) (-1) 0 ((atI (atBk F.bs b) i).tt.getD k 0).toNat = true → thrB F ((atI (atBk F.bs b) i).ar.getD k 0) ((atI (atBk F.bs b) i).tt.getD k 0).toNat (-1) = true)
 else thrB F ((atI (atBk F.bs b) i).ar.getD k 0) b i = true
def insOk (F : Fun) (b i : Nat) : Prop := ∀ k, k < (atI (atBk F.bs b) i).ar.length → argOk F b i k
def statedP (F : Fun) : Prop := ∀ b, b < F.bs.length → FL.rs (FL.gN (gI F)) (-1) 0 b = true → ∀ i, i < (atBk F.bs b).length → insOk F b i
structure GrOk (F : Fun) : Prop where
 pos : ∀ b, b < F.bs.length → 0 < (atBk F.bs b).length
 ok : FL.OkG (FL.gN (gI F))
 rng : ∀ k x, k < (gI F).length → x ∈ (gI F).getD k [] → 0 ≤ x ∧ x < (gI F).length
 phi : ∀ b i, b < F.bs.length → i < (atBk F.bs b).length → (atI (atBk F.bs b) i).op = 28 → (atI (atBk F.bs b) i).tt.length = (atI (atBk F.bs b) i).ar.length ∧ ∀ k, k < (atI (atBk F.bs b) i).tt.length → 0 ≤ (atI (atBk F.bs b) i).tt.getD k 0 ∧ (atI (atBk F.bs b) i).tt.getD k 0 < F.bs.length
theorem held_9 {q : Nat} {p1 p2 p3 p4 p5 p6 p7 p8 p9 o1 o2 o3 o4 o5 o6 o7 o8 o9 : Nat} {v1 v2 v3 v4 v5 v6 v7 v8 v9 : Value} {w3 w1 w2 : World}
  (h : Below q w3 w1 ∧ q ≤ w1.heap.size ∧ w1.cell? ⟨p1, o1, none⟩ = some v1 ∧ w1.cell? ⟨p2, o2, none⟩ = some v2 ∧ w1.cell? ⟨p3, o3, none⟩ = some v3 ∧ w1.cell? ⟨p4, o4, none⟩ = some v4 ∧ w1.cell? ⟨p5, o5, none⟩ = some v5 ∧ w1.cell? ⟨p6, o6, none⟩ = some v6 ∧ w1.cell? ⟨p7, o7, none⟩ = some v7 ∧ w1.cell? ⟨p8, o8, none⟩ = some v8 ∧ w1.cell? ⟨p9, o9, none⟩ = some v9) (hb : Below w1.heap.size w1 w2) :
  Below q w3 w2 ∧ q ≤ w2.heap.size ∧ w2.cell? ⟨p1, o1, none⟩ = some v1 ∧ w2.cell? ⟨p2, o2, none⟩ = some v2 ∧ w2.cell? ⟨p3, o3, none⟩ = some v3 ∧ w2.cell? ⟨p4, o4, none⟩ = some v4 ∧ w2.cell? ⟨p5, o5, none⟩ = some v5 ∧ w2.cell? ⟨p6, o6, none⟩ = some v6 ∧ w2.cell? ⟨p7, o7, none⟩ = some v7 ∧ w2.cell? ⟨p8, o8, none⟩ = some v8 ∧ w2.cell? ⟨p9, o9, none⟩ = some v9 := by
 obtain ⟨h10, h11, h1, h2, h3, h4, h5, h6, h7, h8, h9⟩ := h
 exact ⟨h10.trans (hb.mono h11), Nat.le_trans h11 hb.size, keep h1 hb, keep h2 hb, keep h3 hb, keep h4 hb, keep h5 hb, keep h6 hb, keep h7 hb, keep h8 hb, keep h9 hb⟩
set_option maxRecDepth 100000 in
set_option maxHeartbeats 8000000 in
theorem stated_any (F : Fun) (A : FunA) (w : World) (hin : FunIn w F A) (hs : FunSm F) (hgr : GrOk F) :
  Calls Tryz.prog 56 #[funV F A] w (BoolIff (statedP F) w) := by
 have hal : Below w.heap.size w (w.alloc (.cells #[.slice A.pa F.ps.length A.pc, .int .i64 F.ret, .slice A.sa F.sl.length A.sc, .slice A.ba F.bs.length A.bc] 31)) := (Below.refl _ _).alloc (Nat.le_refl _) _
 have HI := Lib.hid (hin.below hal)
 have hr0 : (w.alloc (.cells #[.slice A.pa F.ps.length A.pc, .int .i64 F.ret, .slice A.sa F.sl.length A.sc, .slice A.ba F.bs.length A.bc] 31)).heap[w.heap.size]? = some (.cells (funC F A) 31 (0, 0)) := heap_alloc_new _ _
 have HR0 := Lib.hid hr0
 obtain ⟨g0, g1, g2, g3⟩ := funC_at hr0
 have HB0 := Lib.hid hal
 have hsb := hs.bs
 have HSm := Lib.hid hs
 have HGr := Lib.hid hgr
 have hgl := gI_len F
 have HGg := Lib.hid (fun u (h : FBIn u A.ba F.bs) => rgraph_any F A u h (by omega) (fun k hk => ⟨hgr.pos k hk, Nat.le_trans (hs.ins k hk) (by omega)⟩) (fun k hk => Nat.le_trans (hs.gI hgr.pos k hk) (by omega)))
 have HRe := Lib.hid (fun ga gc u (h : RowsIn u ga (gI F)) => rreached_any (gI F) ga gc (-1) u h hgr.ok hgr.rng (by omega))
 have HTh := Lib.hid (fun ga gc v (b : Nat) at' u (h : FunIn u F A) (hg : RowsIn u ga (gI F)) (hb : b < F.bs.length) => there_any F A ga gc v b at' u h hs hg hgr.ok hgr.rng hb)
 have HF : Hid (∀ w', ¬ statedP F → Below w.heap.size w w' → BoolIff (statedP F) w (.returned (.bool false)) w') := Lib.hid fun w' h1 h2 => ⟨⟨false, rfl, by simp [h1]⟩, h2⟩
 have HT : Hid (∀ w', statedP F → Below w.heap.size w w' → BoolIff (statedP F) w (.returned (.bool true)) w') := Lib.hid fun w' h1 h2 => ⟨⟨true, rfl, by simp [h1]⟩, h2⟩
 generalize BoolIff (statedP F) w = PP at *
 rw [hgl] at HRe HTh
 clear hin hal hr0 hs hgr hgl
 simp only [funV, funC] at HGg HTh ⊢
 generalize hn : F.bs.length = n at *
 have HN := Lib.hid hn; clear hn
 go_enter Tryz.func56, Tryz.ntmps56
 go_upto_region 1 with fail
 generalize w.alloc (.cells #[.slice A.pa F.ps.length A.pc, .int .i64 F.ret, .slice A.sa F.sl.length A.sc, .slice A.ba n A.bc] 31) = w1 at *
 go_wp2_with fail
 refine (HGg.out _ HI.out.bs).mono ?_; rintro e w2 ⟨⟨v, rfl, hro⟩, hb2⟩
 obtain ⟨ga, gc, rfl, hrows⟩ := hro.rows
 rw [gI_len, HN.out]
 have HRows := Lib.hid hrows
 have HB2 := Lib.hid (HB0.out.trans (hb2.mono HB0.out.size))
 have HI2 := Lib.hid (HI.out.below hb2)
 have hr2 := (hb2.block _ (lt_of_block HR0.out)).trans HR0.out
 have HR2 := Lib.hid hr2
 clear hro hb2 hrows g0 g1 g2 g3 hr2
 go_wp2_with fail
 refine (HRe.out ga gc _ HRows.out).mono ?_; rintro e w3 ⟨⟨q, rfl, hqw, hbl⟩, hb3⟩
 have HBl := Lib.hid hbl
 have HB3 := Lib.hid (HB2.out.trans (hb3.mono HB2.out.size))
 have HI3 := Lib.hid (HI2.out.below hb3)
 have HRw3 := Lib.hid (HRows.out.below hb3)
 have HR3 := Lib.hid ((hb3.block _ (lt_of_block HR2.out)).trans HR2.out)
 clear hbl hb3
 have f3' := (funC_at HR3.out).2.2.2
 rw [HN.out] at f3'
 have HF0 := Lib.hid (funC_at HR3.out).1; have HF1 := Lib.hid (funC_at HR3.out).2.1; have HF2 := Lib.hid (funC_at HR3.out).2.2.1; have HF3 := Lib.hid f3'
 clear f3'
 go_wp2_with fail
 go_loopw [5] (fun i wr => ∃ b : Nat, b ≤ n ∧ i = .int .i64 b ∧ Hid (∀ c, c < b → FL.rs (FL.gN (gI F)) (-1) 0 c = true → ∀ i, i < (atBk F.bs c).length → insOk F c i) ∧ Below w3.heap.size w3 wr) (fun i _ => n - (intOf i).toNat)
 case atStart => exact ⟨0, Nat.zero_le _, rfl, Lib.hid fun c hc => absurd hc (Nat.not_lt_zero _), Below.refl _ _⟩
 case round =>
  obtain ⟨b, hb, rfl, HAll, hbw⟩ := hrel
  obtain ⟨wo, rfl⟩ : ∃ wo, wo = wr := ⟨_, rfl⟩
  have HBw := Lib.hid hbw
  have f3 := keep HF3.out hbw
  by_cases hlt : b < n
  rotate_left
  ·obtain rfl : b = n := by omega
   have HE := Lib.hid (HT.out _ (fun c hc => HAll.out c (by rw [HN.out] at hc; exact hc)) (HB3.out.trans (hbw.mono HB3.out.size)))
   clear hbw
   go_wp2_with fail
   exact HE.out
  have hbi : (b : Int) < (n : Int) := by omega
  have cb := (HBl.out.below hbw).cell (k := b) hlt
  have HNx : Hid ((FL.rs (FL.gN (gI F)) (-1) 0 b = true → ∀ i, i < (atBk F.bs b).length → insOk F b i) → ∀ c, c < b + 1 → FL.rs (FL.gN (gI F)) (-1) 0 c = true → ∀ i, i < (atBk F.bs c).length → insOk F c i) := Lib.hid fun h c hc => by
   by_cases e : c = b
   ·subst e; exact h
   ·exact HAll.out c (by omega)
  cases hrb : FL.rs (FL.gN (gI F)) (-1) 0 b
  ·have HAll2 := Lib.hid (HNx.out (fun h => by rw [hrb] at h; cases h))
   rw [hrb] at cb
   clear hbw hrb
   go_wp2_with fail
   go_roundw
   case rel => exact ⟨b + 1, by omega, by go_num, HAll2, HBw.out⟩
   case measure => simp [intOf]; omega
  have HRb := Lib.hid hrb
  rw [hrb] at cb
  obtain ⟨b1, o1, a1, cp1, ha, hc, hins⟩ := (HI3.out.below hbw).bs b (by rw [HN.out]; exact hlt)
  have hm100 := HSm.out.ins b (by rw [HN.out]; exact hlt)
  have HIn := Lib.hid hins
  rw [ha] at f3
  clear ha
  have HLo := Lib.hid f3
  have HCo := Lib.hid hc
  clear hins hbw hrb
  generalize hm : (atBk F.bs b).length = m at *
  have HM := Lib.hid hm; clear hm
  go_wp2_with fail
  clear f3 hc cb
  go_loopw [6] (fun i wr => ∃ k : Nat, k ≤ m ∧ i = .int .i64 k ∧ Hid (∀ i, i < k → insOk F b i) ∧ Below wo.heap.size wo wr) (fun i _ => m - (intOf i).toNat)
  case atStart => exact ⟨0, Nat.zero_le _, rfl, Lib.hid fun d hd => absurd hd (Nat.not_lt_zero _), Below.refl _ _⟩
  case round =>
   obtain ⟨i, hi, rfl, HK, hbk⟩ := hrel
   obtain ⟨wi, rfl⟩ : ∃ wi, wi = wr := ⟨_, rfl⟩
   have HBk := Lib.hid hbk
   have l3 := keep HLo.out hbk; have hc := keep HCo.out hbk
   by_cases hlk : i < m
   rotate_left
   ·obtain rfl : i = m := by omega
    have HC2 := Lib.hid (HNx.out (fun _ j hj => HK.out j hj))
    clear hbk
    go_wp2_with fail
    go_roundw
    case rel => exact ⟨b + 1, by omega, by go_num, HC2, HBw.out.trans (HBk.out.mono HBw.out.size)⟩
    case measure => simp [intOf]; omega
   have hii : (i : Int) < (m : Int) := by omega
   obtain ⟨b2, o2, aa, ta, ca, ct, rfl, hx⟩ := (HIn.out.below hbk) i (by rw [HM.out]; exact hlk)
   obtain ⟨har, htt⟩ := HSm.out.ars b i (by rw [HN.out]; exact hlt) (by rw [HM.out]; exact hlk)
   have HPh := Lib.hid (HGr.out.phi b i (by rw [HN.out]; exact hlt) (by rw [HM.out]; exact hlk))
   have HNo : Hid (¬ insOk F b i → ¬ statedP F) := Lib.hid fun h1 h2 => h1 (h2 b (by rw [HN.out]; exact hlt) HRb.out i (by rw [HM.out]; exact hlk))
   have HKx : Hid (insOk F b i → ∀ j, j < i + 1 → insOk F b j) := Lib.hid fun h j hj => by
    by_cases e : j = i
    ·subst e; exact h
    ·exact HK.out j (by omega)
   have HIe : Hid (insOk F b i ↔ ∀ k, k < (atI (atBk F.bs b) i).ar.length → argOk F b i k) := Lib.hid Iff.rfl
   have HAe : Hid (∀ k, argOk F b i k ↔ if (atI (atBk F.bs b) i).op = 28 then (FL.rs (FL.gN (gI F)) (-1) 0 ((atI (atBk F.bs b) i).tt.getD k 0).toNat = true → thrB F ((atI (atBk F.bs b) i).ar.getD k 0) ((atI (atBk F.bs b) i).tt.getD k 0).toNat (-1) = true) else thrB F ((atI (atBk F.bs b) i).ar.getD k 0) b i = true) := Lib.hid fun k => Iff.rfl
   have hbx : Below wi.heap.size wi (wi.alloc (.cells #[.int .i64 (atI (atBk F.bs b) i).op, .int .i64 (atI (atBk F.bs b) i).wd, .int .i64 (atI (atBk F.bs b) i).fl, .slice aa (atI (atBk F.bs b) i).ar.length ca, .int .u32 (atI (atBk F.bs b) i).im, .slice ta (atI (atBk F.bs b) i).tt.length ct] 63)) := (Below.refl _ _).alloc (Nat.le_refl _) _
   have HX := Lib.hid (insAt_new wi (atI (atBk F.bs b) i) aa ta ca ct 63 hx.ia hx.it)
   have HBx := Lib.hid hbx
   have HBr := Lib.hid (HBw.out.trans (HBk.out.mono HBw.out.size))
   obtain ⟨c0, c1, c2, c3, c4, c5, _, _⟩ := hx
   clear hbk
   generalize hxx : atI (atBk F.bs b) i = x at *
   clear hxx
   go_upto_region 11 with fail
   clear c0 c1 c2 c3 c4 c5 l3 hc
   have HBkx := Lib.hid (HBk.out.trans (HBx.out.mono HBk.out.size))
   have HBrx := Lib.hid (HBr.out.trans (HBx.out.mono HBr.out.size))
   clear hbx
   generalize wi.alloc _ = wx at *
   generalize wi.heap.size = qx at *
   have c3 := HX.out.c3
   simp only [Nat.zero_add] at c3
   have HC3 := Lib.hid c3
   generalize hna : x.ar.length = na at *
   have HNa := Lib.hid hna; clear hna
   go_wp2_with fail
   clear c3
   go_loopw [8] (fun v wr => ∃ k : Nat, k ≤ na ∧ v = .int .i64 k ∧ Hid (∀ j, j < k → argOk F b i j) ∧ Below wx.heap.size wx wr) (fun v _ => na - (intOf v).toNat)
   case atStart => exact ⟨0, Nat.zero_le _, rfl, Lib.hid fun d hd => absurd hd (Nat.not_lt_zero _), Below.refl _ _⟩
   case round =>
    obtain ⟨k, hk, rfl, HJ, hbr⟩ := hrel
    have HBj := Lib.hid hbr
    have HBWr := Lib.hid (HBrx.out.trans (hbr.mono HBrx.out.size))
    have c0 := keep HX.out.c0 hbr; have c3 := keep HC3.out hbr
    have c5 := keep HX.out.c5 hbr
    simp only [Nat.zero_add] at c5
    by_cases hkn : k < na
    rotate_left
    ·obtain rfl : k = na := by omega
     have HKn := Lib.hid (HKx.out (HIe.out.2 HJ.out))
     clear hbr c0 c5
     go_wp2_with fail
     go_roundw
     case rel => exact ⟨i + 1, by omega, by go_num, HKn, HBkx.out.trans (HBj.out.mono HBkx.out.size)⟩
     case measure => simp [intOf]; omega
    have hki : (k : Int) < (na : Int) := by omega
    have HNk : Hid (¬ argOk F b i k → ¬ statedP F) := Lib.hid fun h => HNo.out fun h2 => h (HIe.out.1 h2 k hkn)
    have HJx : Hid (argOk F b i k → ∀ j, j < k + 1 → argOk F b i j) := Lib.hid fun h j hj => by
     by_cases e : j = k
     ·subst e; exact h
     ·exact HJ.out j (by omega)
    have HAk := Lib.hid (HAe.out k)
    obtain ⟨b3, o3, rfl, ck⟩ := (HX.out.ia.below hbr) k (by rw [HNa.out]; exact hkn)
    have HTt := Lib.hid (HX.out.it.below hbr)
    have d0 := keep HF0.out HBWr.out; have d1 := keep HF1.out HBWr.out; have d2 := keep HF2.out HBWr.out; have d3 := keep HF3.out HBWr.out
    have HIw := Lib.hid (HI3.out.below HBWr.out)
    have HRw := Lib.hid (HRw3.out.below HBWr.out)
    have HBB := Lib.hid (HB3.out.trans (HBWr.out.mono HB3.out.size))
    have HBlw := Lib.hid (HBl.out.below HBWr.out)
    clear hbr
    generalize x.ar.getD k 0 = y at *
    by_cases h28 : x.op = 28
    rotate_left
    ·have q28 : (x.op == 28) = false := by simp [h28]
     have HAk2 : Hid (argOk F b i k ↔ thrB F y b i = true) := Lib.hid (by rw [HAk.out, if_neg h28])
     clear h28
     go_upto_region 17 with fail
     obtain ⟨Q, hQ⟩ : ∃ Q, wr.heap.size = Q := ⟨_, rfl⟩
     have hS : Below Q wr wr ∧ Q ≤ wr.heap.size ∧ wr.cell? ⟨qx, 3, none⟩ = some (.slice (some ⟨b3, o3, none⟩) na ca) ∧ wr.cell? ⟨qx, 5, none⟩ = some (.slice ta x.tt.length ct) ∧ wr.cell? ⟨b3, o3 + k, none⟩ = some (.int .i64 y) ∧ wr.cell? ⟨b3, o3 + k, none⟩ = some (.int .i64 y) ∧ wr.cell? ⟨b3, o3 + k, none⟩ = some (.int .i64 y) ∧ wr.cell? ⟨w.heap.size, 0, none⟩ = some (.slice A.pa F.ps.length A.pc) ∧ wr.cell? ⟨w.heap.size, 1, none⟩ = some (.int .i64 F.ret) ∧ wr.cell? ⟨w.heap.size, 2, none⟩ = some (.slice A.sa F.sl.length A.sc) ∧ wr.cell? ⟨w.heap.size, 3, none⟩ = some (.slice A.ba n A.bc) := by subst hQ; exact ⟨Below.refl _ _, Nat.le_refl _, c3, c5, ck, ck, ck, d0, d1, d2, d3⟩
     have HThQ := Lib.hid (fun u (hu : Below Q wr u) => HTh.out ga gc y b i u (HIw.out.below (by rw [hQ]; exact hu)) (HRw.out.below (by rw [hQ]; exact hu)) hlt)
     have HQq := Lib.hid hQ
     generalize htb : thrB F y b i = tb at *
     have HTb := Lib.hid htb; clear htb
     clear d0 d1 d2 d3 c0 c3 c5 hQ ck
     skip
     go_region_held3 (fun w' => Below Q wr w' ∧ Q ≤ w'.heap.size ∧ w'.cell? ⟨qx, 3, none⟩ = some (.slice (some ⟨b3, o3, none⟩) na ca) ∧ w'.cell? ⟨qx, 5, none⟩ = some (.slice ta x.tt.length ct) ∧ w'.cell? ⟨b3, o3 + k, none⟩ = some (.int .i64 y) ∧ w'.cell? ⟨b3, o3 + k, none⟩ = some (.int .i64 y) ∧ w'.cell? ⟨b3, o3 + k, none⟩ = some (.int .i64 y) ∧ w'.cell? ⟨w.heap.size, 0, none⟩ = some (.slice A.pa F.ps.length A.pc) ∧ w'.cell? ⟨w.heap.size, 1, none⟩ = some (.int .i64 F.ret) ∧ w'.cell? ⟨w.heap.size, 2, none⟩ = some (.slice A.sa F.sl.length A.sc) ∧ w'.cell? ⟨w.heap.size, 3, none⟩ = some (.slice A.ba n A.bc))
      (first | exact hS | exact held_9 hS (below_drew1 (Below.refl _ _)) | exact held_9 (by assumption) (by assumption))
      ((go_at_call 96; refine (HThQ.out _ (And.left ‹Below Q wr _ ∧ Q ≤ _ ∧ _›)).mono ?_; rintro e w5 ⟨rfl, hb5⟩))
     rename_i hH
     have hbz : Below wr.heap.size wr w5 := by rw [HQq.out]; exact hH.1
     have HBz := Lib.hid hbz
     clear hH hbz hb5
     cases tb
     ·have HE := Lib.hid (HF.out w5 (HNk.out (fun h => by have := HAk2.out.1 h; cases this)) (HBB.out.trans (HBz.out.mono HBB.out.size)))
      go_wp2_with fail
      exact HE.out
     ·have HJ2 := Lib.hid (HJx.out (HAk2.out.2 rfl))
      go_wp2_with fail
      go_roundw
      case rel => exact ⟨k + 1, by omega, by go_num, HJ2, HBj.out.trans (HBz.out.mono HBj.out.size)⟩
      case measure => simp [intOf]; omega
    have q28 : (x.op == 28) = true := by simp [h28]
    obtain ⟨hl, hrange⟩ := HPh.out h28
    have hkt : k < x.tt.length := by rw [hl]; exact hkn
    obtain ⟨b4, o4, rfl, c4t⟩ := HTt.out k hkt
    have hz := hrange k hkt
    have HAk2 : Hid (argOk F b i k ↔ (FL.rs (FL.gN (gI F)) (-1) 0 (x.tt.getD k 0).toNat = true → thrB F y (x.tt.getD k 0).toNat (-1) = true)) := Lib.hid (by rw [HAk.out, if_pos h28])
    clear h28 hl hrange HAk
    generalize x.tt.getD k 0 = z at *
    obtain ⟨yn, rfl⟩ : ∃ yn : Nat, z = (yn : Int) := ⟨z.toNat, by omega⟩
    rw [Int.toNat_natCast] at HAk2
    have hyn : yn < n := by rw [HN.out] at hz; omega
    have hyi : (yn : Int) < (n : Int) := by omega
    have hkti : (k : Int) < (x.tt.length : Int) := by omega
    have cin := HBlw.out.cell (k := yn) hyn
    cases hrs : FL.rs (FL.gN (gI F)) (-1) 0 yn
    ·rw [hrs] at cin
     have HJ2 := Lib.hid (HJx.out (HAk2.out.2 (fun h => by rw [hrs] at h; cases h)))
     clear hrs d0 d1 d2 d3 hz
     go_wp2_with fail
     go_quiet (fail)
     go_wp2_with fail
     go_roundw
     case rel => exact ⟨k + 1, by omega, by go_num, HJ2, below_drewN HBj.out _⟩
     case measure => simp [intOf]; omega
    have HRs := Lib.hid hrs
    rw [hrs] at cin
    clear hrs hz
    go_upto_region 15 with fail
    obtain ⟨Q, hQ⟩ : ∃ Q, wr.heap.size = Q := ⟨_, rfl⟩
    have hS : Below Q wr wr ∧ Q ≤ wr.heap.size ∧ wr.cell? ⟨qx, 3, none⟩ = some (.slice (some ⟨b3, o3, none⟩) na ca) ∧ wr.cell? ⟨qx, 5, none⟩ = some (.slice (some ⟨b4, o4, none⟩) x.tt.length ct) ∧ wr.cell? ⟨b4, o4 + k, none⟩ = some (.int .i64 (yn : Nat)) ∧ wr.cell? ⟨b3, o3 + k, none⟩ = some (.int .i64 y) ∧ wr.cell? ⟨q, yn, none⟩ = some (.bool true) ∧ wr.cell? ⟨w.heap.size, 0, none⟩ = some (.slice A.pa F.ps.length A.pc) ∧ wr.cell? ⟨w.heap.size, 1, none⟩ = some (.int .i64 F.ret) ∧ wr.cell? ⟨w.heap.size, 2, none⟩ = some (.slice A.sa F.sl.length A.sc) ∧ wr.cell? ⟨w.heap.size, 3, none⟩ = some (.slice A.ba n A.bc) := by subst hQ; exact ⟨Below.refl _ _, Nat.le_refl _, c3, c5, c4t, ck, cin, d0, d1, d2, d3⟩
    have HThQ := Lib.hid (fun u (hu : Below Q wr u) => HTh.out ga gc y yn (-1) u (HIw.out.below (by rw [hQ]; exact hu)) (HRw.out.below (by rw [hQ]; exact hu)) hyn)
    have HQq := Lib.hid hQ
    generalize htb : thrB F y yn (-1) = tb at *
    have HTb := Lib.hid htb; clear htb
    clear d0 d1 d2 d3 c0 c3 c5 hQ ck
    skip
    go_region_held3 (fun w' => Below Q wr w' ∧ Q ≤ w'.heap.size ∧ w'.cell? ⟨qx, 3, none⟩ = some (.slice (some ⟨b3, o3, none⟩) na ca) ∧ w'.cell? ⟨qx, 5, none⟩ = some (.slice (some ⟨b4, o4, none⟩) x.tt.length ct) ∧ w'.cell? ⟨b4, o4 + k, none⟩ = some (.int .i64 (yn : Nat)) ∧ w'.cell? ⟨b3, o3 + k, none⟩ = some (.int .i64 y) ∧ w'.cell? ⟨q, yn, none⟩ = some (.bool true) ∧ w'.cell? ⟨w.heap.size, 0, none⟩ = some (.slice A.pa F.ps.length A.pc) ∧ w'.cell? ⟨w.heap.size, 1, none⟩ = some (.int .i64 F.ret) ∧ w'.cell? ⟨w.heap.size, 2, none⟩ = some (.slice A.sa F.sl.length A.sc) ∧ w'.cell? ⟨w.heap.size, 3, none⟩ = some (.slice A.ba n A.bc))
     (first | exact hS | exact held_9 hS (below_drew1 (Below.refl _ _)) | exact held_9 (by assumption) (by assumption))
     ((go_at_call 96; refine (HThQ.out _ (And.left ‹Below Q wr _ ∧ Q ≤ _ ∧ _›)).mono ?_; rintro e w5 ⟨rfl, hb5⟩))
    rename_i hH
    have hbz : Below wr.heap.size wr w5 := by rw [HQq.out]; exact hH.1
    have HBz := Lib.hid hbz
    clear hH hbz hb5
    cases tb
    ·have HE := Lib.hid (HF.out w5 (HNk.out (fun h => by have := HAk2.out.1 h HRs.out; cases this)) (HBB.out.trans (HBz.out.mono HBB.out.size)))
     go_wp2_with fail
     exact HE.out
    ·have HJ2 := Lib.hid (HJx.out (HAk2.out.2 (fun _ => rfl)))
     go_wp2_with fail
     go_roundw
     case rel => exact ⟨k + 1, by omega, by go_num, HJ2, HBj.out.trans (HBz.out.mono HBj.out.size)⟩
     case measure => simp [intOf]; omega
end Go.Proofs.YtbbbflnnbbaamaaGreatDoor.PK
namespace Go.Proofs.YtbbbflnnbbaamaaGreatDoor.PK

def ksI (K : List Int) (x : Ins) : List Int := x.ar.map (ofI K)
theorem ksI_len (K : List Int) (x : Ins) : (ksI K x).length = x.ar.length := by simp [ksI]
theorem ksI_get {K : List Int} {x : Ins} {k : Nat} (h : k < x.ar.length) : (ksI K x).getD k 0 = ofI K (x.ar.getD k 0) := by
 unfold ksI
 rw [List.getD_eq_getElem?_getD, List.getD_eq_getElem?_getD, List.getElem?_map, List.getElem?_eq_getElem h]; rfl
def rtyB (op wd ret : Int) (ks : List Int) : Bool :=
 ks.all (fun k => decide (0 ≤ k)) &&
 (if op = 14 then isNum (ks.getD 0 0) && decide (ks.getD 1 0 = ks.getD 0 0)
 else if op = 15 then decide (ks.getD 0 0 = 1) && (decide (ks.getD 1 0 = wd) && decide (ks.getD 2 0 = wd))
 else if op = 16 ∨ op = 17 then isNum (ks.getD 0 0) && decide (ks.getD 0 0 < wd)
 else if op = 18 then isNum (ks.getD 0 0) && decide (wd < ks.getD 0 0)
 else if op = 25 then decide (ks.getD 0 0 = 33) && isNum (ks.getD 1 0)
 else if op = 26 then decide (ks.getD 0 0 = 33)
 else if op = 27 then decide (ks.getD 0 0 = 33) && isMm (ks.getD 1 0)
 else if op = 30 then decide (ks.getD 0 0 = 1)
 else if op = 31 then decide (ks.length = 0) || decide (ks.getD 0 0 = ret)
 else ks.all fun k => decide (k = wd))
def ityB (c wd ret : Int) (ks : List Int) : Bool :=
 if c = 2 ∨ c = 7 ∨ c = 8 ∨ c = 14 then ks.all fun k => decide (k = wd)
 else if c = 3 then isNum (ks.getD 0 0) && ks.all fun k => decide (k = ks.getD 0 0)
 else if c = 4 then decide (ks.getD 0 0 = 1) && (decide (ks.getD 1 0 = wd) && decide (ks.getD 2 0 = wd))
 else if c = 5 then isNum (ks.getD 0 0) && decide (ks.getD 0 0 < wd)
 else if c = 6 then isNum (ks.getD 0 0) && decide (wd < ks.getD 0 0)
 else if c = 11 then decide (ks.getD 0 0 = 33) && isNum (ks.getD 1 0)
 else if c = 12 then decide (ks.getD 0 0 = 33)
 else if c = 13 then decide (ks.getD 0 0 = 33) && isMm (ks.getD 1 0)
 else if c = 16 then decide (ks.getD 0 0 = 1)
 else if c = 17 then ks.all fun k => decide (k = ret)
 else true
theorem cls_2 {op : Int} (h : 1 ≤ op ∧ op ≤ 13) : clsI op = 2 := by
 unfold clsI
 repeat (first | rw [if_neg (by omega)] | rw [if_pos h])
theorem cls_no {op : Int} (h : clsI op ≠ 0) : (1 ≤ op ∧ op ≤ 13) ∨ op = 0 ∨ op = 14 ∨ op = 15 ∨ op = 16 ∨ op = 17 ∨ op = 18 ∨ op = 19 ∨ op = 20 ∨ op = 21 ∨ op = 22 ∨ op = 23 ∨ op = 24 ∨ op = 25 ∨ op = 26 ∨ op = 27 ∨ op = 28 ∨ op = 29 ∨ op = 30 ∨ op = 31 ∨ op = 32 := by
 unfold clsI at h
 revert h
 repeat' split
 all_goals intro h
 all_goals omega
theorem list_0 {l : List Int} (h : l.length = 0) : l = [] := List.length_eq_zero_iff.1 h
theorem list_1 {l : List Int} (h : l.length = 1) : ∃ a, l = [a] := List.length_eq_one_iff.1 h
theorem list_2 {l : List Int} (h : l.length = 2) : ∃ a b, l = [a, b] := by
 match l, h with
 | [a, b], _ => exact ⟨a, b, rfl⟩
theorem list_3 {l : List Int} (h : l.length = 3) : ∃ a b c, l = [a, b, c] := by
 match l, h with
 | [a, b, c], _ => exact ⟨a, b, c, rfl⟩
theorem all_wd {wd : Int} (h : 0 ≤ wd) (ks : List Int) : (ks.all (fun k => decide (0 ≤ k)) && ks.all fun k => decide (k = wd)) = ks.all fun k => decide (k = wd) := by
 rw [Bool.eq_iff_iff]
 simp only [Bool.and_eq_true, List.all_eq_true, decide_eq_true_eq]
 exact ⟨fun h => h.2, fun h2 => ⟨fun k hk => by rw [h2 k hk]; exact h, h2⟩⟩
theorem ty_eq (F : Fun) (x : Ins) (ks : List Int) (hr : 0 ≤ F.ret) (hsh : shapeB F x = true) (hk : ks.length = x.ar.length) : rtyB x.op x.wd F.ret ks = ityB (clsI x.op) x.wd F.ret ks := by
 unfold shapeB formI argsI at hsh
 simp only [Bool.and_eq_true, decide_eq_true_eq] at hsh
 obtain ⟨h1, h2, _, h3, _⟩ := hsh
 rw [← hk] at h3
 generalize x.tt.length = T at *
 generalize x.op = op at *
 generalize x.wd = wd at *
 generalize x.im = im at *
 generalize F.ret = ret at *
 rcases cls_no h1 with hc | h | h | h | h | h | h | h | h | h | h | h | h | h | h | h | h | h | h | h | h
 ·have e : clsI op = 2 := cls_2 hc
  rw [e] at h2
  simp [isNum] at h2
  have e1 : ityB 2 wd ret ks = ks.all fun k => decide (k = wd) := if_pos (.inl rfl)
  have e2 : rtyB op wd ret ks = (ks.all (fun k => decide (0 ≤ k)) && ks.all fun k => decide (k = wd)) := by
   unfold rtyB
   rw [if_neg (by omega), if_neg (by omega), if_neg (by omega), if_neg (by omega), if_neg (by omega), if_neg (by omega), if_neg (by omega), if_neg (by omega), if_neg (by omega)]
  rw [e, e1, e2]
  exact all_wd (by omega) ks
 all_goals subst h
 all_goals simp [clsI, isNum, isMm] at h2 h3
 ·subst h3; rfl
 ·obtain ⟨a, b, rfl⟩ := list_2 (l := ks) (by omega)
  rw [Bool.eq_iff_iff]; simp [rtyB, ityB, clsI, isNum]; omega
 ·obtain ⟨a, b, c, rfl⟩ := list_3 (l := ks) (by omega)
  rw [Bool.eq_iff_iff]; simp [rtyB, ityB, clsI]; omega
 ·obtain ⟨a, rfl⟩ := list_1 (l := ks) (by omega)
  rw [Bool.eq_iff_iff]; simp [rtyB, ityB, clsI, isNum]; omega
 ·obtain ⟨a, rfl⟩ := list_1 (l := ks) (by omega)
  rw [Bool.eq_iff_iff]; simp [rtyB, ityB, clsI, isNum]; omega
 ·obtain ⟨a, rfl⟩ := list_1 (l := ks) (by omega)
  rw [Bool.eq_iff_iff]; simp [rtyB, ityB, clsI, isNum]; omega
 ·exact all_wd (by omega) ks
 ·exact all_wd (by omega) ks
 ·exact all_wd (by omega) ks
 ·subst h3; rfl
 ·subst h3; rfl
 ·subst h3; rfl
 ·obtain ⟨a, b, rfl⟩ := list_2 (l := ks) (by omega)
  rw [Bool.eq_iff_iff]; simp [rtyB, ityB, clsI, isNum]; omega
 ·obtain ⟨a, rfl⟩ := list_1 (l := ks) (by omega)
  rw [Bool.eq_iff_iff]; simp [rtyB, ityB, clsI]; omega
 ·obtain ⟨a, b, rfl⟩ := list_2 (l := ks) (by omega)
  rw [Bool.eq_iff_iff]; simp [rtyB, ityB, clsI, isMm]; omega
 ·exact all_wd (by omega) ks
 ·subst h3; rfl
 ·obtain ⟨a, rfl⟩ := list_1 (l := ks) (by omega)
  rw [Bool.eq_iff_iff]; simp [rtyB, ityB, clsI]; omega
 ·by_cases hz : ks.length = 0
  ·obtain rfl := list_0 hz; rfl
  ·obtain ⟨a, rfl⟩ := list_1 (l := ks) (by omega)
   rw [Bool.eq_iff_iff]; simp [rtyB, ityB, clsI]; omega
 ·subst h3; rfl
end Go.Proofs.YtbbbflnnbbaamaaGreatDoor.PK
