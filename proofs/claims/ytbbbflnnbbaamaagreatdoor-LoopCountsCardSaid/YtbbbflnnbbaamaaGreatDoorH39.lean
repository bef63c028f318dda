/- Packed of several texts. -/
import Derived.Test.YtbbbflnnbbaamaaGreatDoorH35
import Derived.Deep.QuietTactic
import Derived.BigQuiet
namespace Go.Proofs.YtbbbflnnbbaamaaGreatDoor.PK

def lenR (r : Int × Int × Bool) (x : Ins) : Bool := (if 0 ≤ r.1 then decide ((x.ar.length : Int) = r.1) else decide (x.ar.length = x.tt.length)) && (if 0 ≤ r.2.1 then decide ((x.tt.length : Int) = r.2.1) else true)
abbrev frmX (F : Fun) (x : Ins) : Int × Int × Bool := frmR F.ret F.sl.length x.ar.length x.op x.wd x.fl x.im
theorem shapeB_frm (F : Fun) (x : Ins) (hr : 0 ≤ F.ret) : shapeB F x = ((frmX F x).2.2 && (lenR (frmX F x) x && ((x.tt.all fun b => decide (0 ≤ b ∧ b < F.bs.length)) && !(decide (x.op = 30) && decide (x.tt.getD 0 0 = x.tt.getD 1 0))))) := by
 obtain ⟨op, wd, fl, ar, im, tt⟩ := x
 unfold shapeB lenR
 simp only [frmX]
 generalize (tt.all fun b => decide (0 ≤ b ∧ b < (F.bs.length : Int))) = ta
 generalize tt.getD 0 0 = t0
 generalize tt.getD 1 0 = t1
 by_cases o : 0 ≤ op ∧ op ≤ 32
 ·have hcs : op = 0 ∨ op = 1 ∨ op = 2 ∨ op = 3 ∨ op = 4 ∨ op = 5 ∨ op = 6 ∨ op = 7 ∨ op = 8 ∨ op = 9 ∨ op = 10 ∨ op = 11 ∨ op = 12 ∨ op = 13 ∨ op = 14 ∨ op = 15 ∨ op = 16 ∨ op = 17 ∨ op = 18 ∨ op = 19 ∨ op = 20 ∨ op = 21 ∨ op = 22 ∨ op = 23 ∨ op = 24 ∨ op = 25 ∨ op = 26 ∨ op = 27 ∨ op = 28 ∨ op = 29 ∨ op = 30 ∨ op = 31 ∨ op = 32 := by omega
  clear o
  rcases hcs with rfl | rfl | rfl | rfl | rfl | rfl | rfl | rfl | rfl | rfl | rfl | rfl | rfl | rfl | rfl | rfl | rfl | rfl | rfl | rfl | rfl | rfl | rfl | rfl | rfl | rfl | rfl | rfl | rfl | rfl | rfl | rfl | rfl
  all_goals (simp [frmR, formI, clsI, argsI, tosI, flOk, flgI]) <;> try ac_rfl
  ·rw [show isMm wd = (decide (wd = 8) || (decide (wd = 16) || decide (wd = 32))) from by unfold isMm; by_cases h8 : wd = 8 <;> by_cases h16 : wd = 16 <;> by_cases h32 : wd = 32 <;> simp [*]]
   ac_rfl
  ·by_cases hl : ar.length = tt.length
   ·rw [hl]; simp; ac_rfl
   ·have hl2 : ¬ (ar.length : Int) = (tt.length : Int) := by omega
    simp [hl, hl2]
  ·by_cases h0 : 0 < F.ret
   ·rw [show min F.ret 1 = 1 by omega, if_pos h0]; simp; ac_rfl
   ·rw [show min F.ret 1 = 0 by omega, if_neg h0]; simp; ac_rfl
 ·have hc : clsI op = 0 := by
   unfold clsI
   repeat' split
   all_goals first | rfl | omega
  have hf : (frmR F.ret F.sl.length ar.length op wd fl im).2.2 = false := by
   rw [frmR, if_neg (by omega), if_neg (by omega), if_neg (by omega), if_neg (by omega), if_neg (by omega), if_neg (by omega), if_neg (by omega), if_neg (by omega), if_neg (by omega), if_neg (by omega), if_neg (by omega), if_neg (by omega), if_neg (by omega), if_neg (by omega), if_neg (by omega), if_neg (by omega)]
  rw [hc, hf]
  simp
end Go.Proofs.YtbbbflnnbbaamaaGreatDoor.PK
namespace Go.Proofs.YtbbbflnnbbaamaaGreatDoor.PK
open Go.RowKit

def RShapeOK : Prop := ∀ (F : Fun) (A : FunA) (x : Ins) (aa ta : Option Addr) (ca ct : Nat) (w : World), x.im < 4294967296 → F.sl.length ≤ 1000 → x.ar.length ≤ 1000 →
  Calls Tryz.prog 91 #[funV F A, insV x aa ta ca ct] w (FmPost (frmX F x) w)
def ArgPost (b : Bool) (w : World) (e : Ending) (w' : World) : Prop := e = .returned (.bool b) ∧ Below w.heap.size w w'
def tosOk (n : Nat) (l : List Int) (k : Nat) : Prop := ∀ j, j < k → 0 ≤ l.getD j 0 ∧ l.getD j 0 < n
theorem tosOk_all {n : Nat} {l : List Int} (h : tosOk n l l.length) : (l.all fun b => decide (0 ≤ b ∧ b < (n : Int))) = true := by
 rw [List.all_eq_true]
 intro b hb
 obtain ⟨j, hj, rfl⟩ := List.getElem_of_mem hb
 have := h j hj
 rw [List.getD_eq_getElem?_getD, List.getElem?_eq_getElem hj] at this
 exact decide_eq_true this
theorem tosOk_not {n : Nat} {l : List Int} {k : Nat} (hk : k < l.length) (h : ¬ (0 ≤ l.getD k 0 ∧ l.getD k 0 < n)) : (l.all fun b => decide (0 ≤ b ∧ b < (n : Int))) = false := by
 rw [List.all_eq_false]
 refine ⟨l[k], List.getElem_mem hk, ?_⟩
 rw [List.getD_eq_getElem?_getD, List.getElem?_eq_getElem hk] at h
 simpa using h
set_option maxRecDepth 100000 in
set_option maxHeartbeats 8000000 in
theorem rargument_of (hsh : RShapeOK) (F : Fun) (A : FunA) (x : Ins) (aa ta : Option Addr) (ca ct : Nat) (w : World) (hit : IntsIn w ta x.tt) (hm : x.im < 4294967296) (hs : F.sl.length ≤ 1000) (ha : x.ar.length ≤ 1000) (ht : x.tt.length ≤ 1000) (hr : 0 ≤ F.ret) :
  Calls Tryz.prog 53 #[funV F A, insV x aa ta ca ct] w (ArgPost (shapeB F x) w) := by
 have HSh := Lib.hid (fun u => hsh F A x aa ta ca ct u hm hs ha)
 have HSB := Lib.hid (shapeB_frm F x hr)
 have HTo : Hid (x.op = 30 → (frmX F x).2.1 = 2 ∧ (frmX F x).1 = 1) := Lib.hid fun h => by
  unfold frmX frmR; simp [h]
 clear hsh
 obtain ⟨op, wd, fl, ar, im, tt⟩ := x
 replace ha : ar.length ≤ 1000 := ha
 replace ht : tt.length ≤ 1000 := ht
 replace hit : IntsIn w ta tt := hit
 have HOkA := Lib.hid (fun h => tosOk_all (n := F.bs.length) (l := tt) h)
 have HOkN := Lib.hid (fun k hk h => tosOk_not (n := F.bs.length) (l := tt) (k := k) hk h)
 generalize frmX F ⟨op, wd, fl, ar, im, tt⟩ = r at *
 obtain ⟨r1, r2, r3⟩ := r
 unfold lenR FmPost at *
 simp only at HSB HTo HSh
 simp only [funV, funC, insV] at HSh ⊢
 have hw3 : ∃ w3, (w.alloc (.cells #[.slice A.pa F.ps.length A.pc, .int .i64 F.ret, .slice A.sa F.sl.length A.sc, .slice A.ba F.bs.length A.bc] 31)).alloc (.cells #[.int .i64 op, .int .i64 wd, .int .i64 fl, .slice aa ar.length ca, .int .u32 im, .slice ta tt.length ct] 63) = w3 := ⟨_, rfl⟩
 obtain ⟨w3, hw3⟩ := hw3
 have f0 : w3.cell? ⟨w.heap.size, 0, none⟩ = some (.slice A.pa F.ps.length A.pc) := by subst hw3; simp [go_sem]
 have f1 : w3.cell? ⟨w.heap.size, 1, none⟩ = some (.int .i64 F.ret) := by subst hw3; simp [go_sem]
 have f2 : w3.cell? ⟨w.heap.size, 2, none⟩ = some (.slice A.sa F.sl.length A.sc) := by subst hw3; simp [go_sem]
 have f3 : w3.cell? ⟨w.heap.size, 3, none⟩ = some (.slice A.ba F.bs.length A.bc) := by subst hw3; simp [go_sem]
 have x0 : w3.cell? ⟨w.heap.size + 1, 0, none⟩ = some (.int .i64 op) := by subst hw3; simp [go_sem]
 have x1 : w3.cell? ⟨w.heap.size + 1, 1, none⟩ = some (.int .i64 wd) := by subst hw3; simp [go_sem]
 have x2 : w3.cell? ⟨w.heap.size + 1, 2, none⟩ = some (.int .i64 fl) := by subst hw3; simp [go_sem]
 have x3 : w3.cell? ⟨w.heap.size + 1, 3, none⟩ = some (.slice aa ar.length ca) := by subst hw3; simp [go_sem]
 have x4 : w3.cell? ⟨w.heap.size + 1, 4, none⟩ = some (.int .u32 im) := by subst hw3; simp [go_sem]
 have x5 : w3.cell? ⟨w.heap.size + 1, 5, none⟩ = some (.slice ta tt.length ct) := by subst hw3; simp [go_sem]
 have hb3 : Below w.heap.size w w3 := by
  subst hw3
  exact ((Below.refl _ _).alloc (Nat.le_refl _) _).alloc (by simp) _
 have HB3 := Lib.hid hb3
 have HIt := Lib.hid (hit.below hb3)
 clear hit hb3
 have HF : Hid (∀ w', shapeB F ⟨op, wd, fl, ar, im, tt⟩ = false → Below w.heap.size w w' → ArgPost (shapeB F ⟨op, wd, fl, ar, im, tt⟩) w (.returned (.bool false)) w') := Lib.hid fun w' h1 h2 => ⟨by rw [h1], h2⟩
 have HT : Hid (∀ w', shapeB F ⟨op, wd, fl, ar, im, tt⟩ = true → Below w.heap.size w w' → ArgPost (shapeB F ⟨op, wd, fl, ar, im, tt⟩) w (.returned (.bool true)) w') := Lib.hid fun w' h1 h2 => ⟨by rw [h1], h2⟩
 generalize ArgPost (shapeB F ⟨op, wd, fl, ar, im, tt⟩) w = PP at *
 generalize shapeB F ⟨op, wd, fl, ar, im, tt⟩ = SB at *
 go_enter Tryz.func53, Tryz.ntmps53
 go_upto_region 1 with fail
 (try rw [hw3])
 clear hw3
 go_wp2_with fail
 refine (HSh.out _).mono ?_; rintro e w4 ⟨rfl, hb4⟩
 have hba : Below w4.heap.size w4 (w4.alloc (.cells #[.int .i64 r1, .int .i64 r2, .bool r3] 142)) := (Below.refl _ _).alloc (Nat.le_refl _) _
 have hb5 := hb4.trans (hba.mono hb4.size)
 have g0 := keep f0 hb5; have g3 := keep f3 hb5
 have y0 := keep x0 hb5; have y3 := keep x3 hb5; have y5 := keep x5 hb5
 have r0c : (w4.alloc (.cells #[.int .i64 r1, .int .i64 r2, .bool r3] 142)).cell? ⟨w4.heap.size, 0, none⟩ = some (.int .i64 r1) := by simp [go_sem]
 have r1c : (w4.alloc (.cells #[.int .i64 r1, .int .i64 r2, .bool r3] 142)).cell? ⟨w4.heap.size, 1, none⟩ = some (.int .i64 r2) := by simp [go_sem]
 have r2c : (w4.alloc (.cells #[.int .i64 r1, .int .i64 r2, .bool r3] 142)).cell? ⟨w4.heap.size, 2, none⟩ = some (.bool r3) := by simp [go_sem]
 have HB5 := Lib.hid (HB3.out.trans (hb5.mono HB3.out.size))
 have HI5 := Lib.hid (HIt.out.below hb5)
 have hz4 : w.heap.size + 1 < w4.heap.size := Nat.lt_of_lt_of_le (block_lt_of_cell x0) hb4.size
 clear f0 f1 f2 f3 x0 x1 x2 x3 x4 x5 hb4 hba hb5
 go_upto_region 2 with fail
 generalize w4.alloc (.cells #[.int .i64 r1, .int .i64 r2, .bool r3] 142) = w5 at *
 generalize w4.heap.size = q at *
 generalize hq1 : w.heap.size + 1 = q1 at *
 cases r3
 ·have HE := Lib.hid (HF.out w5 (by rw [HSB.out]; simp) HB5.out)
  go_wp2_with fail
  exact HE.out
 go_upto_region 4 with fail
 generalize hna : ar.length = na at *
 generalize hnt : tt.length = nt at *
 have HNt := Lib.hid hnt
 clear hna hnt hq1
 have hcs : (0 ≤ r1 ∧ (na : Int) ≠ r1) ∨ (r1 < 0 ∧ na ≠ nt) ∨ ((0 ≤ r1 ∧ (na : Int) = r1) ∨ (r1 < 0 ∧ na = nt)) ∧ ((0 ≤ r2 ∧ (nt : Int) ≠ r2) ∨ (0 ≤ r2 ∧ (nt : Int) = r2) ∨ r2 < 0) := by omega
 rcases hcs with ⟨c1, c2⟩ | ⟨c1, c2⟩ | ⟨⟨c1, c2⟩ | ⟨c1, c2⟩, ⟨d1, d2⟩ | ⟨d1, d2⟩ | d1⟩
 ·have HE := Lib.hid (HF.out w5 (by rw [HSB.out]; simp [c1, c2]) HB5.out)
  have e1 : ((na : Int) != r1) = true := bne_iff_ne.2 c2
  clear c2
  go_wp2_with fail
  exact HE.out
 ·have HE := Lib.hid (HF.out w5 (by rw [HSB.out, if_neg (by omega)]; simp [c2]) HB5.out)
  have e0 : ¬ 0 ≤ r1 := by omega
  have e1 : ((na : Int) != (nt : Int)) = true := bne_iff_ne.2 (by omega)
  clear c2
  go_wp2_with fail
  exact HE.out
 ·skip
  have e1 : ((na : Int) != r1) = false := by simp [c2]
  have HE := Lib.hid (HF.out w5 (by rw [HSB.out]; simp [c1, c2, d1, d2]) HB5.out)
  have e2 : ((nt : Int) != r2) = true := bne_iff_ne.2 d2
  clear c2 d2
  go_wp2_with fail
  exact HE.out
 ·skip
  have e1 : ((na : Int) != r1) = false := by simp [c2]
  have e2 : ((nt : Int) != r2) = false := by simp [d2]
  have c1' : 0 ≤ r1 := c1
  have d1' : 0 ≤ r2 := d1
  have HL : Hid (SB = ((tt.all fun b => decide (0 ≤ b ∧ b < (F.bs.length : Int))) && !(decide (op = 30) && decide (tt.getD 0 0 = tt.getD 1 0)))) := Lib.hid (by rw [HSB.out]; simp [c1, c2, d1, d2])
  have HC30 : Hid (op = 30 → nt = 2) := Lib.hid (fun h => by have := HTo.out h; omega)
  clear c1 c2 d1 d2
  go_wp2_with fail
  clear r0c r1c r2c y3
  have G3 := Lib.hid g3; have Y0 := Lib.hid y0; have Y5 := Lib.hid y5
  clear g3 y0 y5
  go_loopw [6] (fun i wr => ∃ k : Nat, k ≤ nt ∧ i = .int .i64 k ∧ Hid (tosOk F.bs.length tt k) ∧ Below w5.heap.size w5 wr) (fun i _ => nt - (intOf i).toNat)
  case atStart => exact ⟨0, Nat.zero_le _, rfl, Lib.hid (fun j hj => absurd hj (Nat.not_lt_zero _)), Below.refl _ _⟩
  case round =>
   obtain ⟨k, hk, rfl, HTk, hb⟩ := hrel
   have HBw := Lib.hid (HB5.out.trans (hb.mono HB5.out.size))
   have HB := Lib.hid hb
   have z5 := keep Y5.out hb; have z0 := keep Y0.out hb; have z3 := keep G3.out hb
   by_cases hlt : k < nt
   rotate_left
   ·obtain rfl : k = nt := by omega
    have hall := HOkA.out HTk.out
    by_cases h30 : op = 30
    ·obtain rfl : k = 2 := HC30.out h30
     obtain ⟨b0, o0, rfl, t0c⟩ := HI5.out.below hb 0 (by rw [HNt.out]; omega)
     obtain ⟨b1, o1, e1, t1c⟩ := HI5.out.below hb 1 (by rw [HNt.out]; omega)
     cases e1
     rw [Nat.add_zero] at t0c
     have q30 : (op != 30) = false := by simp [h30]
     have HL2 : Hid (SB = !(decide (tt.getD 0 0 = tt.getD 1 0))) := Lib.hid (by rw [HL.out, hall]; simp [h30])
     have hk0 : (0 : Int) < ((2 : Nat) : Int) := by omega
     have hk1 : (1 : Int) < ((2 : Nat) : Int) := by omega
     clear hall h30 hb
     generalize tt.getD 0 0 = u0 at *
     generalize tt.getD 1 0 = u1 at *
     by_cases hu : u0 = u1
     ·have qu : (u0 != u1) = false := by simp [hu]
      have HE := Lib.hid (fun N => HF.out _ (by rw [HL2.out]; simp [hu]) (below_drewN HBw.out N))
      clear hu
      go_wp2_with fail
      go_quiet (fail)
      go_wp2_with fail
      exact HE.out _
     ·have qu : (u0 != u1) = true := bne_iff_ne.2 hu
      have HE := Lib.hid (fun N => HT.out _ (by rw [HL2.out]; simp [hu]) (below_drewN HBw.out N))
      clear hu
      go_wp2_with fail
      go_quiet (fail)
      go_wp2_with fail
      exact HE.out _
    ·have q30 : (op != 30) = true := bne_iff_ne.2 h30
     have HE := Lib.hid (fun N => HT.out _ (by rw [HL.out, hall]; simp [h30]) (below_drewN HBw.out N))
     clear hall h30 hb
     go_wp2_with fail
     go_quiet (fail)
     go_wp2_with fail
     exact HE.out _
   have hki : (k : Int) < (nt : Int) := by omega
   have hk0 : (0 : Int) ≤ (k : Int) := by omega
   obtain ⟨b0, o0, rfl, t0c⟩ := HI5.out.below hb k (by rw [HNt.out]; exact hlt)
   have HNo := Lib.hid (HOkN.out k hlt)
   have HNx : Hid (0 ≤ tt.getD k 0 ∧ tt.getD k 0 < (F.bs.length : Int) → tosOk F.bs.length tt (k + 1)) := Lib.hid fun h j hj => by
    by_cases e : j = k
    ·subst e; exact h
    ·exact HTk.out j (by omega)
   clear hb
   generalize tt.getD k 0 = u at *
   by_cases h0 : u < 0
   ·have HE := Lib.hid (fun N => HF.out _ (by rw [HL.out, HNo.out (by omega)]; rfl) (below_drewN HBw.out N))
    have q0 : decide (u < 0) = true := decide_eq_true h0
    clear h0
    go_wp2_with fail
    go_quiet (fail)
    go_wp2_with fail
    exact HE.out _
   have q0 : decide (u < 0) = false := decide_eq_false h0
   by_cases h1 : (F.bs.length : Int) ≤ u
   ·have HE := Lib.hid (fun N => HF.out _ (by rw [HL.out, HNo.out (by omega)]; rfl) (below_drewN HBw.out N))
    have q1 : decide ((F.bs.length : Int) ≤ u) = true := decide_eq_true h1
    clear h0 h1
    go_wp2_with fail
    go_quiet (fail)
    go_wp2_with fail
    exact HE.out _
   ·have q1 : decide ((F.bs.length : Int) ≤ u) = false := decide_eq_false h1
    have HTn := Lib.hid (HNx.out ⟨by omega, by omega⟩)
    clear h0 h1
    go_wp2_with fail
    go_quiet (fail)
    go_wp2_with fail
    go_roundw
    case rel => exact ⟨k + 1, by omega, by go_num, HTn, below_drewN HB.out _⟩
    case measure => simp [intOf]; omega
 ·skip
  have e1 : ((na : Int) != r1) = false := by simp [c2]
  have d0 : ¬ 0 ≤ r2 := by omega
  have c1' : 0 ≤ r1 := c1
  have HL : Hid (SB = ((tt.all fun b => decide (0 ≤ b ∧ b < (F.bs.length : Int))) && !(decide (op = 30) && decide (tt.getD 0 0 = tt.getD 1 0)))) := Lib.hid (by rw [HSB.out]; simp [c1, c2, d0])
  have HC30 : Hid (op = 30 → nt = 2) := Lib.hid (fun h => by have := HTo.out h; omega)
  clear c1 c2 d1
  go_wp2_with fail
  clear r0c r1c r2c y3
  have G3 := Lib.hid g3; have Y0 := Lib.hid y0; have Y5 := Lib.hid y5
  clear g3 y0 y5
  go_loopw [6] (fun i wr => ∃ k : Nat, k ≤ nt ∧ i = .int .i64 k ∧ Hid (tosOk F.bs.length tt k) ∧ Below w5.heap.size w5 wr) (fun i _ => nt - (intOf i).toNat)
  case atStart => exact ⟨0, Nat.zero_le _, rfl, Lib.hid (fun j hj => absurd hj (Nat.not_lt_zero _)), Below.refl _ _⟩
  case round =>
   obtain ⟨k, hk, rfl, HTk, hb⟩ := hrel
   have HBw := Lib.hid (HB5.out.trans (hb.mono HB5.out.size))
   have HB := Lib.hid hb
   have z5 := keep Y5.out hb; have z0 := keep Y0.out hb; have z3 := keep G3.out hb
   by_cases hlt : k < nt
   rotate_left
   ·obtain rfl : k = nt := by omega
    have hall := HOkA.out HTk.out
    by_cases h30 : op = 30
    ·obtain rfl : k = 2 := HC30.out h30
     obtain ⟨b0, o0, rfl, t0c⟩ := HI5.out.below hb 0 (by rw [HNt.out]; omega)
     obtain ⟨b1, o1, e1, t1c⟩ := HI5.out.below hb 1 (by rw [HNt.out]; omega)
     cases e1
     rw [Nat.add_zero] at t0c
     have q30 : (op != 30) = false := by simp [h30]
     have HL2 : Hid (SB = !(decide (tt.getD 0 0 = tt.getD 1 0))) := Lib.hid (by rw [HL.out, hall]; simp [h30])
     have hk0 : (0 : Int) < ((2 : Nat) : Int) := by omega
     have hk1 : (1 : Int) < ((2 : Nat) : Int) := by omega
     clear hall h30 hb
     generalize tt.getD 0 0 = u0 at *
     generalize tt.getD 1 0 = u1 at *
     by_cases hu : u0 = u1
     ·have qu : (u0 != u1) = false := by simp [hu]
      have HE := Lib.hid (fun N => HF.out _ (by rw [HL2.out]; simp [hu]) (below_drewN HBw.out N))
      clear hu
      go_wp2_with fail
      go_quiet (fail)
      go_wp2_with fail
      exact HE.out _
     ·have qu : (u0 != u1) = true := bne_iff_ne.2 hu
      have HE := Lib.hid (fun N => HT.out _ (by rw [HL2.out]; simp [hu]) (below_drewN HBw.out N))
      clear hu
      go_wp2_with fail
      go_quiet (fail)
      go_wp2_with fail
      exact HE.out _
    ·have q30 : (op != 30) = true := bne_iff_ne.2 h30
     have HE := Lib.hid (fun N => HT.out _ (by rw [HL.out, hall]; simp [h30]) (below_drewN HBw.out N))
     clear hall h30 hb
     go_wp2_with fail
     go_quiet (fail)
     go_wp2_with fail
     exact HE.out _
   have hki : (k : Int) < (nt : Int) := by omega
   have hk0 : (0 : Int) ≤ (k : Int) := by omega
   obtain ⟨b0, o0, rfl, t0c⟩ := HI5.out.below hb k (by rw [HNt.out]; exact hlt)
   have HNo := Lib.hid (HOkN.out k hlt)
   have HNx : Hid (0 ≤ tt.getD k 0 ∧ tt.getD k 0 < (F.bs.length : Int) → tosOk F.bs.length tt (k + 1)) := Lib.hid fun h j hj => by
    by_cases e : j = k
    ·subst e; exact h
    ·exact HTk.out j (by omega)
   clear hb
   generalize tt.getD k 0 = u at *
   by_cases h0 : u < 0
   ·have HE := Lib.hid (fun N => HF.out _ (by rw [HL.out, HNo.out (by omega)]; rfl) (below_drewN HBw.out N))
    have q0 : decide (u < 0) = true := decide_eq_true h0
    clear h0
    go_wp2_with fail
    go_quiet (fail)
    go_wp2_with fail
    exact HE.out _
   have q0 : decide (u < 0) = false := decide_eq_false h0
   by_cases h1 : (F.bs.length : Int) ≤ u
   ·have HE := Lib.hid (fun N => HF.out _ (by rw [HL.out, HNo.out (by omega)]; rfl) (below_drewN HBw.out N))
    have q1 : decide ((F.bs.length : Int) ≤ u) = true := decide_eq_true h1
    clear h0 h1
    go_wp2_with fail
    go_quiet (fail)
    go_wp2_with fail
    exact HE.out _
   ·have q1 : decide ((F.bs.length : Int) ≤ u) = false := decide_eq_false h1
    have HTn := Lib.hid (HNx.out ⟨by omega, by omega⟩)
    clear h0 h1
    go_wp2_with fail
    go_quiet (fail)
    go_wp2_with fail
    go_roundw
    case rel => exact ⟨k + 1, by omega, by go_num, HTn, below_drewN HB.out _⟩
    case measure => simp [intOf]; omega
 ·skip
  have e0 : ¬ 0 ≤ r1 := by omega
  have e1 : ((na : Int) != (nt : Int)) = false := by simp [c2]
  have HE := Lib.hid (HF.out w5 (by rw [HSB.out]; simp [e0, c2, d1, d2]) HB5.out)
  have e2 : ((nt : Int) != r2) = true := bne_iff_ne.2 d2
  clear c2 d2
  go_wp2_with fail
  exact HE.out
 ·skip
  have e0 : ¬ 0 ≤ r1 := by omega
  have e1 : ((na : Int) != (nt : Int)) = false := by simp [c2]
  have e2 : ((nt : Int) != r2) = false := by simp [d2]
  have d1' : 0 ≤ r2 := d1
  have HL : Hid (SB = ((tt.all fun b => decide (0 ≤ b ∧ b < (F.bs.length : Int))) && !(decide (op = 30) && decide (tt.getD 0 0 = tt.getD 1 0)))) := Lib.hid (by rw [HSB.out]; simp [e0, c2, d1, d2])
  have HC30 : Hid (op = 30 → nt = 2) := Lib.hid (fun h => by have := HTo.out h; omega)
  clear c2 d1 d2
  go_wp2_with fail
  clear r0c r1c r2c y3
  have G3 := Lib.hid g3; have Y0 := Lib.hid y0; have Y5 := Lib.hid y5
  clear g3 y0 y5
  go_loopw [6] (fun i wr => ∃ k : Nat, k ≤ nt ∧ i = .int .i64 k ∧ Hid (tosOk F.bs.length tt k) ∧ Below w5.heap.size w5 wr) (fun i _ => nt - (intOf i).toNat)
  case atStart => exact ⟨0, Nat.zero_le _, rfl, Lib.hid (fun j hj => absurd hj (Nat.not_lt_zero _)), Below.refl _ _⟩
  case round =>
   obtain ⟨k, hk, rfl, HTk, hb⟩ := hrel
   have HBw := Lib.hid (HB5.out.trans (hb.mono HB5.out.size))
   have HB := Lib.hid hb
   have z5 := keep Y5.out hb; have z0 := keep Y0.out hb; have z3 := keep G3.out hb
   by_cases hlt : k < nt
   rotate_left
   ·obtain rfl : k = nt := by omega
    have hall := HOkA.out HTk.out
    by_cases h30 : op = 30
    ·obtain rfl : k = 2 := HC30.out h30
     obtain ⟨b0, o0, rfl, t0c⟩ := HI5.out.below hb 0 (by rw [HNt.out]; omega)
     obtain ⟨b1, o1, e1, t1c⟩ := HI5.out.below hb 1 (by rw [HNt.out]; omega)
     cases e1
     rw [Nat.add_zero] at t0c
     have q30 : (op != 30) = false := by simp [h30]
     have HL2 : Hid (SB = !(decide (tt.getD 0 0 = tt.getD 1 0))) := Lib.hid (by rw [HL.out, hall]; simp [h30])
     have hk0 : (0 : Int) < ((2 : Nat) : Int) := by omega
     have hk1 : (1 : Int) < ((2 : Nat) : Int) := by omega
     clear hall h30 hb
     generalize tt.getD 0 0 = u0 at *
     generalize tt.getD 1 0 = u1 at *
     by_cases hu : u0 = u1
     ·have qu : (u0 != u1) = false := by simp [hu]
      have HE := Lib.hid (fun N => HF.out _ (by rw [HL2.out]; simp [hu]) (below_drewN HBw.out N))
      clear hu
      go_wp2_with fail
      go_quiet (fail)
      go_wp2_with fail
      exact HE.out _
     ·have qu : (u0 != u1) = true := bne_iff_ne.2 hu
      have HE := Lib.hid (fun N => HT.out _ (by rw [HL2.out]; simp [hu]) (below_drewN HBw.out N))
      clear hu
      go_wp2_with fail
      go_quiet (fail)
      go_wp2_with fail
      exact HE.out _
    ·have q30 : (op != 30) = true := bne_iff_ne.2 h30
     have HE := Lib.hid (fun N => HT.out _ (by rw [HL.out, hall]; simp [h30]) (below_drewN HBw.out N))
     clear hall h30 hb
     go_wp2_with fail
     go_quiet (fail)
     go_wp2_with fail
     exact HE.out _
   have hki : (k : Int) < (nt : Int) := by omega
   have hk0 : (0 : Int) ≤ (k : Int) := by omega
   obtain ⟨b0, o0, rfl, t0c⟩ := HI5.out.below hb k (by rw [HNt.out]; exact hlt)
   have HNo := Lib.hid (HOkN.out k hlt)
   have HNx : Hid (0 ≤ tt.getD k 0 ∧ tt.getD k 0 < (F.bs.length : Int) → tosOk F.bs.length tt (k + 1)) := Lib.hid fun h j hj => by
    by_cases e : j = k
    ·subst e; exact h
    ·exact HTk.out j (by omega)
   clear hb
   generalize tt.getD k 0 = u at *
   by_cases h0 : u < 0
   ·have HE := Lib.hid (fun N => HF.out _ (by rw [HL.out, HNo.out (by omega)]; rfl) (below_drewN HBw.out N))
    have q0 : decide (u < 0) = true := decide_eq_true h0
    clear h0
    go_wp2_with fail
    go_quiet (fail)
    go_wp2_with fail
    exact HE.out _
   have q0 : decide (u < 0) = false := decide_eq_false h0
   by_cases h1 : (F.bs.length : Int) ≤ u
   ·have HE := Lib.hid (fun N => HF.out _ (by rw [HL.out, HNo.out (by omega)]; rfl) (below_drewN HBw.out N))
    have q1 : decide ((F.bs.length : Int) ≤ u) = true := decide_eq_true h1
    clear h0 h1
    go_wp2_with fail
    go_quiet (fail)
    go_wp2_with fail
    exact HE.out _
   ·have q1 : decide ((F.bs.length : Int) ≤ u) = false := decide_eq_false h1
    have HTn := Lib.hid (HNx.out ⟨by omega, by omega⟩)
    clear h0 h1
    go_wp2_with fail
    go_quiet (fail)
    go_wp2_with fail
    go_roundw
    case rel => exact ⟨k + 1, by omega, by go_num, HTn, below_drewN HB.out _⟩
    case measure => simp [intOf]; omega
 ·skip
  have e0 : ¬ 0 ≤ r1 := by omega
  have e1 : ((na : Int) != (nt : Int)) = false := by simp [c2]
  have d0 : ¬ 0 ≤ r2 := by omega
  have HL : Hid (SB = ((tt.all fun b => decide (0 ≤ b ∧ b < (F.bs.length : Int))) && !(decide (op = 30) && decide (tt.getD 0 0 = tt.getD 1 0)))) := Lib.hid (by rw [HSB.out]; simp [e0, c2, d0])
  have HC30 : Hid (op = 30 → nt = 2) := Lib.hid (fun h => by have := HTo.out h; omega)
  clear c2 d1
  go_wp2_with fail
  clear r0c r1c r2c y3
  have G3 := Lib.hid g3; have Y0 := Lib.hid y0; have Y5 := Lib.hid y5
  clear g3 y0 y5
  go_loopw [6] (fun i wr => ∃ k : Nat, k ≤ nt ∧ i = .int .i64 k ∧ Hid (tosOk F.bs.length tt k) ∧ Below w5.heap.size w5 wr) (fun i _ => nt - (intOf i).toNat)
  case atStart => exact ⟨0, Nat.zero_le _, rfl, Lib.hid (fun j hj => absurd hj (Nat.not_lt_zero _)), Below.refl _ _⟩
  case round =>
   obtain ⟨k, hk, rfl, HTk, hb⟩ := hrel
   have HBw := Lib.hid (HB5.out.trans (hb.mono HB5.out.size))
   have HB := Lib.hid hb
   have z5 := keep Y5.out hb; have z0 := keep Y0.out hb; have z3 := keep G3.out hb
   by_cases hlt : k < nt
   rotate_left
   ·obtain rfl : k = nt := by omega
    have hall := HOkA.out HTk.out
    by_cases h30 : op = 30
    ·obtain rfl : k = 2 := HC30.out h30
     obtain ⟨b0, o0, rfl, t0c⟩ := HI5.out.below hb 0 (by rw [HNt.out]; omega)
     obtain ⟨b1, o1, e1, t1c⟩ := HI5.out.below hb 1 (by rw [HNt.out]; omega)
     cases e1
     rw [Nat.add_zero] at t0c
     have q30 : (op != 30) = false := by simp [h30]
     have HL2 : Hid (SB = !(decide (tt.getD 0 0 = tt.getD 1 0))) := Lib.hid (by rw [HL.out, hall]; simp [h30])
     have hk0 : (0 : Int) < ((2 : Nat) : Int) := by omega
     have hk1 : (1 : Int) < ((2 : Nat) : Int) := by omega
     clear hall h30 hb
     generalize tt.getD 0 0 = u0 at *
     generalize tt.getD 1 0 = u1 at *
     by_cases hu : u0 = u1
     ·have qu : (u0 != u1) = false := by simp [hu]
      have HE := Lib.hid (fun N => HF.out _ (by rw [HL2.out]; simp [hu]) (below_drewN HBw.out N))
      clear hu
      go_wp2_with fail
      go_quiet (fail)
      go_wp2_with fail
      exact HE.out _
     ·have qu : (u0 != u1) = true := bne_iff_ne.2 hu
      have HE := Lib.hid (fun N => HT.out _ (by rw [HL2.out]; simp [hu]) (below_drewN HBw.out N))
      clear hu
      go_wp2_with fail
      go_quiet (fail)
      go_wp2_with fail
      exact HE.out _
    ·have q30 : (op != 30) = true := bne_iff_ne.2 h30
     have HE := Lib.hid (fun N => HT.out _ (by rw [HL.out, hall]; simp [h30]) (below_drewN HBw.out N))
     clear hall h30 hb
     go_wp2_with fail
     go_quiet (fail)
     go_wp2_with fail
     exact HE.out _
   have hki : (k : Int) < (nt : Int) := by omega
   have hk0 : (0 : Int) ≤ (k : Int) := by omega
   obtain ⟨b0, o0, rfl, t0c⟩ := HI5.out.below hb k (by rw [HNt.out]; exact hlt)
   have HNo := Lib.hid (HOkN.out k hlt)
   have HNx : Hid (0 ≤ tt.getD k 0 ∧ tt.getD k 0 < (F.bs.length : Int) → tosOk F.bs.length tt (k + 1)) := Lib.hid fun h j hj => by
    by_cases e : j = k
    ·subst e; exact h
    ·exact HTk.out j (by omega)
   clear hb
   generalize tt.getD k 0 = u at *
   by_cases h0 : u < 0
   ·have HE := Lib.hid (fun N => HF.out _ (by rw [HL.out, HNo.out (by omega)]; rfl) (below_drewN HBw.out N))
    have q0 : decide (u < 0) = true := decide_eq_true h0
    clear h0
    go_wp2_with fail
    go_quiet (fail)
    go_wp2_with fail
    exact HE.out _
   have q0 : decide (u < 0) = false := decide_eq_false h0
   by_cases h1 : (F.bs.length : Int) ≤ u
   ·have HE := Lib.hid (fun N => HF.out _ (by rw [HL.out, HNo.out (by omega)]; rfl) (below_drewN HBw.out N))
    have q1 : decide ((F.bs.length : Int) ≤ u) = true := decide_eq_true h1
    clear h0 h1
    go_wp2_with fail
    go_quiet (fail)
    go_wp2_with fail
    exact HE.out _
   ·have q1 : decide ((F.bs.length : Int) ≤ u) = false := decide_eq_false h1
    have HTn := Lib.hid (HNx.out ⟨by omega, by omega⟩)
    clear h0 h1
    go_wp2_with fail
    go_quiet (fail)
    go_wp2_with fail
    go_roundw
    case rel => exact ⟨k + 1, by omega, by go_num, HTn, below_drewN HB.out _⟩
    case measure => simp [intOf]; omega
end Go.Proofs.YtbbbflnnbbaamaaGreatDoor.PK
