/- Packed of several texts. -/
import Derived.Test.YtbbbflnnbbaamaaGreatDoorH18
import Derived.Test.YtbbbflnnbbaamaaGreatDoorH19
import Derived.Deep.QuietTactic
import Derived.BigQuiet
import Derived.Deep.RegionHeld3
namespace Go.Proofs.YtbbbflnnbbaamaaGreatDoor.PK
open Go.RowKit

def BoolIff (P : Prop) (w : World) (e : Ending) (w' : World) : Prop := (∃ b : Bool, e = .returned (.bool b) ∧ (b = true ↔ P)) ∧ Below w.heap.size w w'
set_option maxRecDepth 100000 in
set_option maxHeartbeats 1000000 in
theorem rsame_any (xs ys : List Int) (a b : Option Addr) (ca cb : Nat) (w : World) (ha : IntsIn w a xs) (hb : IntsIn w b ys) (hl : xs.length ≤ 1000000) :
  Calls Tryz.prog 93 #[.slice a xs.length ca, .slice b ys.length cb] w (BoolIff (xs = ys) w) := by
 have HA := Lib.hid ha; have HB := Lib.hid hb
 have HF : Hid (∀ w', ¬ xs = ys → Below w.heap.size w w' → BoolIff (xs = ys) w (.returned (.bool false)) w') := Lib.hid fun w' h1 h2 => ⟨⟨false, rfl, by simp [h1]⟩, h2⟩
 have HT : Hid (∀ w', xs = ys → Below w.heap.size w w' → BoolIff (xs = ys) w (.returned (.bool true)) w') := Lib.hid fun w' h1 h2 => ⟨⟨true, rfl, by simp [h1]⟩, h2⟩
 clear ha hb
 generalize BoolIff (xs = ys) w = PP at *
 by_cases hn : xs.length = ys.length
 rotate_left
 ·have e : ((xs.length : Int) != (ys.length : Int)) = true := bne_iff_ne.2 (by omega)
  have HE := Lib.hid (HF.out w (fun h => hn (by rw [h])) (Below.refl _ _))
  clear hn
  generalize xs.length = n at *
  generalize ys.length = m at *
  go_enter Tryz.func93, Tryz.ntmps93
  go_wp2_with fail
  exact HE.out
 ·have e : ((xs.length : Int) != (ys.length : Int)) = false := by simp [hn]
  have HEx : Hid ((∀ j, j < xs.length → xs.getD j 0 = ys.getD j 0) → xs = ys) := Lib.hid fun h => List.ext_getElem hn fun i h1 h2 => by
   have := h i h1
   rwa [List.getD_eq_getElem?_getD, List.getElem?_eq_getElem h1, List.getD_eq_getElem?_getD, List.getElem?_eq_getElem h2] at this
  have HNo : Hid (∀ j, xs.getD j 0 ≠ ys.getD j 0 → ¬ xs = ys) := Lib.hid fun j h1 h2 => h1 (by rw [h2])
  have HLy := Lib.hid hn
  clear hn
  generalize hy : ys.length = m at *
  have HM := Lib.hid hy; clear hy
  go_enter Tryz.func93, Tryz.ntmps93
  go_wp2_with fail
  go_loopw [5] (fun i wr => ∃ k : Nat, k ≤ xs.length ∧ i = .int .i64 k ∧ Hid (∀ j, j < k → xs.getD j 0 = ys.getD j 0) ∧ Below w.heap.size w wr) (fun i _ => xs.length - (intOf i).toNat)
  case atStart => exact ⟨0, Nat.zero_le _, rfl, Lib.hid fun j hj => absurd hj (Nat.not_lt_zero _), Below.refl _ _⟩
  case round =>
   obtain ⟨k, hk, rfl, HK, hbl⟩ := hrel
   have HBl := Lib.hid hbl
   by_cases hlt : k < xs.length
   rotate_left
   ·obtain rfl : k = xs.length := by omega
    have HE := Lib.hid (HT.out _ (HEx.out HK.out) hbl)
    clear hbl
    go_wp2_with fail
    exact HE.out
   obtain ⟨b1, o1, rfl, h1⟩ := HA.out.below hbl k hlt
   obtain ⟨b2, o2, rfl, h2⟩ := HB.out.below hbl k (by have := HLy.out; have := HM.out; omega)
   have hki : (k : Int) < (xs.length : Int) := by omega
   have hkm : (k : Int) < (m : Int) := by have := HLy.out; omega
   have hno := HNo.out k
   have HNx : Hid (xs.getD k 0 = ys.getD k 0 → ∀ j, j < k + 1 → xs.getD j 0 = ys.getD j 0) := Lib.hid fun h j hj => by
    by_cases c : j = k
    ·rw [c]; exact h
    ·exact HK.out j (by omega)
   clear hbl
   generalize xs.getD k 0 = x at *
   generalize ys.getD k 0 = y at *
   by_cases hxy : x = y
   ·have hbq : (x != y) = false := by simp [hxy]
    have HN2 := Lib.hid (HNx.out hxy)
    clear hxy hno
    go_wp2_with fail
    go_quiet (fail)
    go_wp2_with fail
    go_roundw
    case rel => exact ⟨k + 1, by omega, by go_num, HN2, below_drewN HBl.out _⟩
    case measure => simp [intOf]; omega
   ·have hbq : (x != y) = true := bne_iff_ne.2 hxy
    have HE := Lib.hid (fun N => HF.out _ (hno hxy) (below_drewN HBl.out N))
    clear hxy hno
    go_wp2_with fail
    go_quiet (fail)
    go_wp2_with fail
    exact HE.out _
def blkOkA (l : List Ins) (k : Nat) : Prop := ∀ i, i < k → (isLst (atI l i).op = decide ((i : Int) = (l.length : Int) - 1)) ∧ (0 < i → (atI l i).op = 28 → (atI l (i - 1)).op = 28)
def blkOk (l : List Ins) : Prop := 0 < l.length ∧ blkOkA l l.length
def phiOk (F : Fun) (b i : Nat) : Prop := (atI (atBk F.bs b) i).op = 28 → (atI (atBk F.bs b) i).tt = befK (gI F) b F.bs.length
def laidP (F : Fun) : Prop := (∀ b, b < F.bs.length → blkOk (atBk F.bs b)) ∧ befK (gI F) 0 F.bs.length = [] ∧ ∀ b i, b < F.bs.length → i < (atBk F.bs b).length → phiOk F b i
theorem held_x {qx q : Nat} {v0 v5 : Value} {w3 w1 w2 : World} (h : w1.cell? ⟨qx, 0, none⟩ = some v0 ∧ w1.cell? ⟨qx, 5, none⟩ = some v5 ∧ Below q w3 w1 ∧ q ≤ w1.heap.size) (hb : Below w1.heap.size w1 w2) :
  w2.cell? ⟨qx, 0, none⟩ = some v0 ∧ w2.cell? ⟨qx, 5, none⟩ = some v5 ∧ Below q w3 w2 ∧ q ≤ w2.heap.size :=
 ⟨keep h.1 hb, keep h.2.1 hb, h.2.2.1.trans (hb.mono h.2.2.2), Nat.le_trans h.2.2.2 hb.size⟩
theorem FunSm.gI {F : Fun} (h : FunSm F) (hp : ∀ b, b < F.bs.length → 0 < (atBk F.bs b).length) (k : Nat) (hk : k < F.bs.length) : (lasI (atBk F.bs k)).tt.length ≤ 40 := (h.ars k _ hk (by have := hp k hk; omega)).2
set_option maxRecDepth 100000 in
set_option maxHeartbeats 8000000 in
theorem rules_any (F : Fun) (A : FunA) (w : World) (hin : FunIn w F A) (hs : FunSm F) :
  Calls Tryz.prog 54 #[funV F A] w (BoolIff (laidP F) w) := by
 have hal : Below w.heap.size w (w.alloc (.cells #[.slice A.pa F.ps.length A.pc, .int .i64 F.ret, .slice A.sa F.sl.length A.sc, .slice A.ba F.bs.length A.bc] 31)) := (Below.refl _ _).alloc (Nat.le_refl _) _
 have HI := Lib.hid (hin.below hal)
 have hr0 : (w.alloc (.cells #[.slice A.pa F.ps.length A.pc, .int .i64 F.ret, .slice A.sa F.sl.length A.sc, .slice A.ba F.bs.length A.bc] 31)).heap[w.heap.size]? = some (.cells (funC F A) 31 (0, 0)) := heap_alloc_new _ _
 obtain ⟨g0, g1, g2, g3⟩ := funC_at hr0
 have HB0 := Lib.hid hal; have HG0 := Lib.hid g0; have HG1 := Lib.hid g1; have HG2 := Lib.hid g2; have HG3 := Lib.hid g3
 have hsb := hs.bs
 have HSm := Lib.hid hs
 have HLa := Lib.hid rIsLast_any
 have HF : Hid (∀ w', ¬ laidP F → Below w.heap.size w w' → BoolIff (laidP F) w (.returned (.bool false)) w') := Lib.hid fun w' h1 h2 => ⟨⟨false, rfl, by simp [h1]⟩, h2⟩
 have HT : Hid (∀ w', laidP F → Below w.heap.size w w' → BoolIff (laidP F) w (.returned (.bool true)) w') := Lib.hid fun w' h1 h2 => ⟨⟨true, rfl, by simp [h1]⟩, h2⟩
 generalize BoolIff (laidP F) w = PP at *
 clear hin hal hr0 hs
 simp only [funV, funC]
 generalize hn : F.bs.length = n at *
 have HN := Lib.hid hn; clear hn
 go_enter Tryz.func54, Tryz.ntmps54
 go_upto_region 1 with fail
 generalize w.alloc (.cells #[.slice A.pa F.ps.length A.pc, .int .i64 F.ret, .slice A.sa F.sl.length A.sc, .slice A.ba n A.bc] 31) = w1 at *
 go_wp2_with fail
 clear g0 g1 g2 g3
 go_loopw [3] (fun i wr => ∃ b : Nat, b ≤ n ∧ i = .int .i64 b ∧ Hid (∀ c, c < b → blkOk (atBk F.bs c)) ∧ w1 = wr) (fun i _ => n - (intOf i).toNat)
 case atStart => exact ⟨0, Nat.zero_le _, rfl, Lib.hid fun c hc => absurd hc (Nat.not_lt_zero _), rfl⟩
 case round =>
  obtain ⟨b, hb, rfl, HAll, rfl⟩ := hrel
  have g3 := HG3.out
  by_cases hlt : b < n
  rotate_left
  ·obtain rfl : b = n := by omega
   have g0 := HG0.out; have g1 := HG1.out; have g2 := HG2.out
   have hpos : ∀ c, c < F.bs.length → 0 < (atBk F.bs c).length := fun c hc => (HAll.out c (by rw [HN.out] at hc; exact hc)).1
   have HGr := Lib.hid (rgraph_any F A w1 HI.out.bs (by rw [HN.out]; omega) (fun k hk => ⟨hpos k hk, Nat.le_trans (HSm.out.ins k hk) (by omega)⟩) (fun k hk => Nat.le_trans (HSm.out.gI hpos k hk) (by omega)))
   have hgl : (gI F).length = b := by rw [gI_len, HN.out]
   have hgr : ∀ k, k < b → ((gI F).getD k []).length ≤ 1000 := fun k hk => by
    have hk' : k < F.bs.length := by rw [HN.out]; exact hk
    rw [gI_get hk']; exact Nat.le_trans (HSm.out.gI hpos k hk') (by omega)
   have HBf := Lib.hid (fun ga gc v u (h : RowsIn u ga (gI F)) => rbefore_any (gI F) ga gc v u h (by rw [hgl]; omega) (fun k hk => hgr k (by rw [hgl] at hk; exact hk)))
   rw [hgl] at HBf
   clear hpos hgr
   simp only [funV, funC] at HGr
   rw [HN.out] at HGr
   go_wp2_with fail
   refine HGr.out.mono ?_; rintro e w2 ⟨⟨v, rfl, hro⟩, hb2⟩
   obtain ⟨ga, gc, rfl, hrows⟩ := hro.rows
   rw [hgl]
   have HRows := Lib.hid hrows
   have HB2 := Lib.hid (HB0.out.trans (hb2.mono HB0.out.size))
   have HI2 := Lib.hid (HI.out.below hb2)
   have k3 := keep g3 hb2
   clear hro hb2 hrows g0 g1 g2 g3
   go_wp2_with fail
   refine (HBf.out ga gc 0 _ HRows.out).mono ?_; rintro e w3 ⟨⟨u, rfl, hou⟩, hb3⟩
   obtain ⟨ua, uc, rfl⟩ := owns_shape hou
   have HB3 := Lib.hid (HB2.out.trans (hb3.mono HB2.out.size))
   have HI3 := Lib.hid (HI2.out.below hb3)
   have HR3 := Lib.hid (HRows.out.below hb3)
   have l3 := keep k3 hb3
   have hbl := befK_len (gI F) 0 b
   clear hou hb3 k3
   by_cases hz : (befK (gI F) 0 b).length = 0
   rotate_left
   ·have HE := Lib.hid (HF.out w3 (fun h => hz (by have := h.2.1; rw [HN.out] at this; rw [this]; rfl)) HB3.out)
    have hz2 : (0 : Int) < ((befK (gI F) 0 b).length : Int) := by omega
    generalize (befK (gI F) 0 b).length = z at *
    clear hz
    go_wp2_with fail
    exact HE.out
   have HZ0 := Lib.hid (List.length_eq_zero_iff.1 hz)
   have hz2 : ¬ (0 : Int) < ((befK (gI F) 0 b).length : Int) := by omega
   have HL3 := Lib.hid l3
   generalize (befK (gI F) 0 b).length = z at *
   clear hz
   go_wp2_with fail
   clear l3 hz2
   go_loopw [7] (fun i wr => ∃ c : Nat, c ≤ b ∧ i = .int .i64 c ∧ Hid (∀ d, d < c → ∀ i, i < (atBk F.bs d).length → phiOk F d i) ∧ Below w3.heap.size w3 wr) (fun i _ => b - (intOf i).toNat)
   case atStart => exact ⟨0, Nat.zero_le _, rfl, Lib.hid fun d hd => absurd hd (Nat.not_lt_zero _), Below.refl _ _⟩
   case round =>
    obtain ⟨c, hcb, rfl, HC, hbw⟩ := hrel
    have HBw := Lib.hid hbw
    obtain ⟨wo, rfl⟩ : ∃ wo, wo = wr := ⟨_, rfl⟩
    have l3 := keep HL3.out hbw
    by_cases hcl : c < b
    rotate_left
    ·obtain rfl : c = b := by omega
     have HE := Lib.hid (HT.out _ ⟨fun d hd => HAll.out d (by rw [HN.out] at hd; exact hd), by rw [HN.out]; exact HZ0.out, fun d i hd hi => HC.out d (by rw [HN.out] at hd; exact hd) i hi⟩ (HB3.out.trans (hbw.mono HB3.out.size)))
     clear hbw
     go_wp2_with fail
     exact HE.out
    have hci : (c : Int) < (b : Int) := by omega
    obtain ⟨b1, o1, a1, cp1, ha, hc, hins⟩ := (HI3.out.below hbw).bs c (by rw [HN.out]; exact hcl)
    have hm100 := HSm.out.ins c (by rw [HN.out]; exact hcl)
    have HIn := Lib.hid hins
    have HPh : Hid (∀ i, i < (atBk F.bs c).length → ¬ phiOk F c i → ¬ laidP F) := Lib.hid fun i hi h1 h2 => h1 (h2.2.2 c i (by rw [HN.out]; exact hcl) hi)
    rw [ha] at l3
    have HLo := Lib.hid l3
    have HCo := Lib.hid hc
    clear ha hins hbw
    generalize hm : (atBk F.bs c).length = m at *
    have HM := Lib.hid hm; clear hm
    go_wp2_with fail
    clear l3 hc
    go_loopw [8] (fun i wr => ∃ k : Nat, k ≤ m ∧ i = .int .i64 k ∧ Hid (∀ i, i < k → phiOk F c i) ∧ Below wo.heap.size wo wr) (fun i _ => m - (intOf i).toNat)
    case atStart => exact ⟨0, Nat.zero_le _, rfl, Lib.hid fun d hd => absurd hd (Nat.not_lt_zero _), Below.refl _ _⟩
    case round =>
     obtain ⟨k, hk, rfl, HK, hbk⟩ := hrel
     have HBk := Lib.hid hbk
     have l3 := keep HLo.out hbk; have hc := keep HCo.out hbk
     by_cases hlk : k < m
     rotate_left
     ·obtain rfl : k = m := by omega
      have HC2 : Hid (∀ d, d < c + 1 → ∀ i, i < (atBk F.bs d).length → phiOk F d i) := Lib.hid fun d hd i hi => by
       by_cases e : d = c
       ·subst e; exact HK.out i (by rw [HM.out] at hi; exact hi)
       ·exact HC.out d (by omega) i hi
      clear hbk
      go_wp2_with fail
      go_roundw
      case rel => exact ⟨c + 1, by omega, by go_num, HC2, HBw.out.trans (HBk.out.mono HBw.out.size)⟩
      case measure => simp [intOf]; omega
     have hki : (k : Int) < (m : Int) := by omega
     obtain ⟨b2, o2, aa, ta, ca, ct, rfl, hx⟩ := (HIn.out.below hbk) k (by rw [HM.out]; exact hlk)
     have HPk := Lib.hid (fun h => HPh.out k hlk h)
     have HKx : Hid (phiOk F c k → ∀ i, i < k + 1 → phiOk F c i) := Lib.hid fun h i hi => by
      by_cases e : i = k
      ·subst e; exact h
      ·exact HK.out i (by omega)
     have HPe : Hid (phiOk F c k ↔ ((atI (atBk F.bs c) k).op = 28 → (atI (atBk F.bs c) k).tt = befK (gI F) c b)) := Lib.hid (by unfold phiOk; rw [HN.out])
     have hbx : Below wr.heap.size wr (wr.alloc (.cells #[.int .i64 (atI (atBk F.bs c) k).op, .int .i64 (atI (atBk F.bs c) k).wd, .int .i64 (atI (atBk F.bs c) k).fl, .slice aa (atI (atBk F.bs c) k).ar.length ca, .int .u32 (atI (atBk F.bs c) k).im, .slice ta (atI (atBk F.bs c) k).tt.length ct] 63)) := (Below.refl _ _).alloc (Nat.le_refl _) _
     have HX := Lib.hid (insAt_new wr (atI (atBk F.bs c) k) aa ta ca ct 63 hx.ia hx.it)
     have HWr := Lib.hid ((HB3.out.trans (HBw.out.mono HB3.out.size)).size)
     have HBr := Lib.hid (HBw.out.trans (HBk.out.mono HBw.out.size))
     have HBW := Lib.hid (HB3.out.trans (HBr.out.mono HB3.out.size))
     have HRr := Lib.hid (HR3.out.below HBr.out)
     have HBx := Lib.hid hbx
     obtain ⟨c0, c1, c2, c3, c4, c5, _, _⟩ := hx
     have htl := (HSm.out.ars c k (by rw [HN.out]; exact hcl) (by rw [HM.out]; exact hlk)).2
     clear hbk
     generalize hxx : atI (atBk F.bs c) k = x at *
     clear hxx
     go_upto_region 24 with fail
     clear c0 c1 c2 c3 c4 c5 l3 hc
     obtain ⟨c0, c1, c2, c3, c4, c5, _, hit⟩ := HX.out
     simp only [Nat.zero_add] at c1 c2 c3 c4 c5
     have HRx := Lib.hid (HRr.out.below HBx.out)
     have HBkx := Lib.hid (HBk.out.trans (HBx.out.mono HBk.out.size))
     have HBWx := Lib.hid (HBW.out.trans (HBx.out.mono HBW.out.size))
     have HIt := Lib.hid hit
     clear hit hbx
     generalize wr.alloc _ = wx at *
     generalize wr.heap.size = qx at *
     by_cases h28 : x.op = 28
     rotate_left
     ·have q28 : (x.op == 28) = false := by simp [h28]
      have HKn := Lib.hid (HKx.out (HPe.out.2 (fun h => absurd h h28)))
      clear h28 c1 c2 c3 c4
      go_quiet (fail)
      go_wp2_with fail
      go_roundw
      case rel => exact ⟨k + 1, by omega, by go_num, HKn, below_drewN HBkx.out _⟩
      case measure => simp [intOf]; omega
     have q28 : (x.op == 28) = true := by simp [h28]
     have HPe2 : Hid (phiOk F c k ↔ x.tt = befK (gI F) c b) := Lib.hid (by rw [HPe.out]; simp [h28])
     obtain ⟨q, hq⟩ : ∃ q, wx.heap.size = q := ⟨_, rfl⟩
     have hS : wx.cell? ⟨qx, 0, none⟩ = some (.int .i64 x.op) ∧ wx.cell? ⟨qx, 5, none⟩ = some (.slice ta x.tt.length ct) ∧ Below q wx wx ∧ q ≤ wx.heap.size := by subst hq; exact ⟨c0, c5, Below.refl _ _, Nat.le_refl _⟩
     have HRq : Hid (∀ u, Below q wx u → RowsIn u ga (gI F)) := Lib.hid fun u hu => HRx.out.below (by rw [hq]; exact hu)
     have HSame : Hid (∀ u ua uc, Below q wx u → IntsIn u ua (befK (gI F) c b) → Calls Tryz.prog 93 #[.slice ta x.tt.length ct, .slice ua (befK (gI F) c b).length uc] u (BoolIff (x.tt = befK (gI F) c b) u)) := Lib.hid fun u ua uc hu hi => rsame_any _ _ _ _ _ _ u (HIt.out.below (by rw [hq]; exact hu)) hi (by omega)
     have HQq := Lib.hid hq
     clear h28 c1 c2 c3 c4 c0 c5 hq
     go_region_held3 (fun w' => w'.cell? ⟨qx, 0, none⟩ = some (.int .i64 x.op) ∧ w'.cell? ⟨qx, 5, none⟩ = some (.slice ta x.tt.length ct) ∧ Below q wx w' ∧ q ≤ w'.heap.size)
      (first | exact hS | exact held_x hS (below_drew1 (Below.refl _ _)) | exact held_x (by assumption) (by assumption))
      (first | (go_at_call 92; refine (HBf.out ga gc c _ (HRq.out _ (And.left (And.right (And.right ‹_ ∧ _ ∧ Below q wx _ ∧ q ≤ _›))))).mono ?_; rintro e w4 ⟨⟨u, rfl, hou⟩, hb4⟩; obtain ⟨ua, uc, rfl⟩ := owns_shape hou; have HU := Lib.hid hou) | (go_at_call 93; refine (HSame.out _ _ _ (And.left (And.right (And.right ‹_ ∧ _ ∧ Below q wx _ ∧ q ≤ _›))) (by obtain ⟨_, _, e, _, h⟩ := ints_of_owns HU.out; cases e; exact h)).mono ?_; rintro e w5 ⟨⟨bb, rfl, hbb⟩, hb5⟩; have HBB := Lib.hid hbb))
     rename_i hH
     have hbz : Below wx.heap.size wx w5 := by rw [HQq.out]; exact hH.2.2.1
     have HBz := Lib.hid hbz
     clear hH hbz hb4 hb5 hou hbb
     cases bb
     ·have HE := Lib.hid (HF.out w5 (HPk.out (fun h => by have := HBB.out.2 (HPe2.out.1 h); cases this)) (HBWx.out.trans (HBz.out.mono HBWx.out.size)))
      go_wp2_with fail
      exact HE.out
     ·have HKn := Lib.hid (HKx.out (HPe2.out.2 (HBB.out.1 rfl)))
      go_wp2_with fail
      go_roundw
      case rel => exact ⟨k + 1, by omega, by go_num, HKn, HBkx.out.trans (HBz.out.mono HBkx.out.size)⟩
      case measure => simp [intOf]; omega
  have hbi : (b : Int) < (n : Int) := by omega
  obtain ⟨b1, o1, a1, cp1, ha, hc, hins⟩ := HI.out.bs b (by rw [HN.out]; exact hlt)
  have hm100 := HSm.out.ins b (by rw [HN.out]; exact hlt)
  have HIn := Lib.hid hins
  have HNotB : Hid (¬ blkOk (atBk F.bs b) → ¬ laidP F) := Lib.hid fun h1 h2 => h1 (h2.1 b (by rw [HN.out]; exact hlt))
  rw [ha] at g3
  clear ha hins
  generalize hll : atBk F.bs b = l at *
  have HL := Lib.hid hll; clear hll
  by_cases h0 : l.length = 0
  ·have HE := Lib.hid (HF.out w1 (HNotB.out (fun h => absurd (show 0 < l.length from h.1) (by omega))) HB0.out)
   have q0 : ((l.length : Int) == 0) = true := by rw [beq_iff_eq]; omega
   generalize l.length = m at *
   clear h0
   go_wp2_with fail
   exact HE.out
  have q0 : ((l.length : Int) == 0) = false := by rw [beq_eq_false_iff_ne]; omega
  generalize hm : l.length = m at *
  have HM := Lib.hid hm; clear hm
  have hsub : wrap64 ((m : Int) - 1) = (m : Int) - 1 := IntWalk.wrap64_in _ (by omega)
  go_wp2_with fail
  go_loopw [5] (fun i wr => ∃ k : Nat, k ≤ m ∧ i = .int .i64 k ∧ Hid (blkOkA l k) ∧ w1 = wr) (fun i _ => m - (intOf i).toNat)
  case atStart => exact ⟨0, Nat.zero_le _, rfl, Lib.hid fun c hc => absurd hc (Nat.not_lt_zero _), rfl⟩
  case round =>
   obtain ⟨k, hk, rfl, HK, rfl⟩ := hrel
   by_cases hlk : k < m
   rotate_left
   ·obtain rfl : k = m := by omega
    have HAll2 : Hid (∀ c, c < b + 1 → blkOk (atBk F.bs c)) := Lib.hid fun c hcc => by
     by_cases e : c = b
     ·rw [e, HL.out]; exact ⟨by rw [HM.out]; omega, by rw [HM.out]; exact HK.out⟩
     ·exact HAll.out c (by omega)
    go_wp2_with fail
    go_roundw
    case rel => exact ⟨b + 1, by omega, by go_num, HAll2, by trivial⟩
    case measure => simp [intOf]; omega
   obtain ⟨b2, o2, aa, ta, ca, ct, rfl, hx⟩ := HIn.out k (by rw [HM.out]; exact hlk)
   have x0 := hx.c0
   have hki : (k : Int) < (m : Int) := by omega
   have HNk : Hid (¬ ((isLst (atI l k).op = decide ((k : Int) = (m : Int) - 1)) ∧ (0 < k → (atI l k).op = 28 → (atI l (k - 1)).op = 28)) → ¬ laidP F) := Lib.hid fun h1 => HNotB.out fun h2 => h1 (by
    have := h2.2 k (by rw [HM.out]; exact hlk)
    rwa [HM.out] at this)
   have HYk : Hid (((isLst (atI l k).op = decide ((k : Int) = (m : Int) - 1)) ∧ (0 < k → (atI l k).op = 28 → (atI l (k - 1)).op = 28)) → blkOkA l (k + 1)) := Lib.hid fun h j hj => by
    by_cases e : j = k
    ·rw [e, HM.out]; exact h
    ·exact HK.out j (by omega)
   clear hx
   have HIp : Hid (∀ j, j < m → ∃ aa ta ca ct, InsAt w1 b2 (o2 + j * 6) (atI l j) aa ta ca ct) := Lib.hid fun j hj => by
    obtain ⟨b3, o3, aa, ta, ca, ct, e, h⟩ := HIn.out j (by rw [HM.out]; exact hj)
    cases e
    exact ⟨aa, ta, ca, ct, h⟩
   generalize hop : (atI l k).op = op at *
   have HOp := Lib.hid hop; clear hop
   have HLk := Lib.hid (HLa.out op)
   have hcq : ((k : Int) == (m : Int) - 1) = decide ((k : Int) = (m : Int) - 1) := rfl
   by_cases hle : isLst op = decide ((k : Int) = (m : Int) - 1)
   rotate_left
   ·have HE := Lib.hid (HF.out w1 (HNk.out (fun h => hle h.1)) HB0.out)
    generalize isLst op = L at *
    by_cases hkm : (k : Int) = (m : Int) - 1
    ·have hkq : ((k : Int) == (m : Int) - 1) = true := by simp [hkm]
     obtain rfl : L = false := by
      cases L
      ·rfl
      ·exact absurd (decide_eq_true hkm).symm hle
     clear hle hcq hkm
     go_wp2_with fail
     refine (HLk.out _).mono ?_; rintro e w2 ⟨rfl, rfl⟩
     go_wp2_with fail
     exact HE.out
    ·have hkq : ((k : Int) == (m : Int) - 1) = false := by simp [hkm]
     obtain rfl : L = true := by
      cases L
      ·exact absurd (decide_eq_false hkm).symm hle
      ·rfl
     clear hle hcq hkm
     go_wp2_with fail
     refine (HLk.out _).mono ?_; rintro e w2 ⟨rfl, rfl⟩
     go_wp2_with fail
     exact HE.out
   have HLe := Lib.hid hle
   have HY1 : Hid ((¬ 0 < k ∨ op ≠ 28) → blkOkA l (k + 1)) := Lib.hid fun h => HYk.out ⟨HLe.out, fun h1 h2 => by rcases h with h | h; exact absurd h1 h; exact absurd h2 h⟩
   have HY2 : Hid ((atI l (k - 1)).op = 28 → blkOkA l (k + 1)) := Lib.hid fun h => HYk.out ⟨HLe.out, fun _ _ => h⟩
   have HN2 : Hid (0 < k → op = 28 → (atI l (k - 1)).op ≠ 28 → ¬ laidP F) := Lib.hid fun h1 h2 h3 => HNk.out fun h => h3 (h.2 h1 h2)
   have hkk : ∃ kb : Bool, ((k : Int) == (m : Int) - 1) = kb ∧ isLst op = kb := ⟨_, rfl, hle⟩
   obtain ⟨kb, hkb, hlb⟩ := hkk
   rw [hlb] at HLk
   clear hle hcq hlb HNk HYk
   have hnn : (kb != kb) = false := by simp
   by_cases hk0 : 0 < k
   rotate_left
   ·have qk : ¬ (0 : Int) < (k : Int) := by omega
    have HKn := Lib.hid (HY1.out (.inl hk0))
    clear hk0
    go_wp2_with fail
    refine (HLk.out _).mono ?_; rintro e w2 ⟨rfl, rfl⟩
    go_wp2_with fail
    go_roundw
    case rel => exact ⟨k + 1, by omega, by go_num, HKn, by trivial⟩
    case measure => simp [intOf]; omega
   have qk : (0 : Int) < (k : Int) := by omega
   by_cases h28 : op = 28
   rotate_left
   ·have q28 : (op == 28) = false := by simp [h28]
    have HKn := Lib.hid (HY1.out (.inr h28))
    clear h28
    go_wp2_with fail
    refine (HLk.out _).mono ?_; rintro e w2 ⟨rfl, rfl⟩
    go_wp2_with fail
    go_roundw
    case rel => exact ⟨k + 1, by omega, by go_num, HKn, by trivial⟩
    case measure => simp [intOf]; omega
   have q28 : (op == 28) = true := by simp [h28]
   have HN3 := Lib.hid (HN2.out hk0 h28)
   obtain ⟨_, _, _, _, hp⟩ := HIp.out (k - 1) (by omega)
   have p0 := hp.c0
   have hsub2 : wrap64 ((k : Int) - 1) = (k : Int) - 1 := IntWalk.wrap64_in _ (by omega)
   have hix : ((k : Int) - 1).toNat = k - 1 := by omega
   have hi0 : (0 : Int) ≤ (k : Int) - 1 := by omega
   have hi1 : (k : Int) - 1 < (m : Int) := by omega
   clear hp h28
   generalize (atI l (k - 1)).op = op2 at *
   by_cases hp28 : op2 = 28
   ·have q29 : (op2 != 28) = false := by simp [hp28]
    have HKn := Lib.hid (HY2.out hp28)
    clear hp28
    go_wp2_with fail
    refine (HLk.out _).mono ?_; rintro e w2 ⟨rfl, rfl⟩
    go_wp2_with fail
    go_roundw
    case rel => exact ⟨k + 1, by omega, by go_num, HKn, by trivial⟩
    case measure => simp [intOf]; omega
   ·have q29 : (op2 != 28) = true := bne_iff_ne.2 hp28
    have HE := Lib.hid (HF.out w1 (HN3.out hp28) HB0.out)
    clear hp28
    go_wp2_with fail
    refine (HLk.out _).mono ?_; rintro e w2 ⟨rfl, rfl⟩
    go_wp2_with fail
    exact HE.out
end Go.Proofs.YtbbbflnnbbaamaaGreatDoor.PK
