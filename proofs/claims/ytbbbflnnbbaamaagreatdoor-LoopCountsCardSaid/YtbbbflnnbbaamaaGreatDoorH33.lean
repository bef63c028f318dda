/- Packed of several texts. -/
import Derived.Test.YtbbbflnnbbaamaaGreatDoorH10
import Derived.Test.YtbbbflnnbbaamaaGreatDoorH26
import Derived.Test.YtbbbflnnbbaamaaGreatDoorH12
namespace Go.Proofs.YtbbbflnnbbaamaaGreatDoor.PK

def clrI (fl m : Int) : Int := IntKind.i64.wrap (BitVec.ofInt IntKind.i64.bits fl &&& ~~~(BitVec.ofInt IntKind.i64.bits m)).toNat
theorem clr_iff (fl m : Int) : clrI fl m = 0 ↔ BitVec.ofInt 64 fl &&& BitVec.ofInt 64 m = BitVec.ofInt 64 fl := by
 have h : clrI fl m = 0 ↔ (BitVec.ofInt 64 fl &&& ~~~(BitVec.ofInt 64 m)) = 0#64 := by
  show IntKind.i64.wrap (BitVec.ofInt 64 fl &&& ~~~(BitVec.ofInt 64 m)).toNat = 0 ↔ _
  generalize BitVec.ofInt 64 fl &&& ~~~(BitVec.ofInt 64 m) = r
  have hr := r.isLt
  rw [← BitVec.toNat_inj]
  simp [IntKind.wrap, IntKind.bits, IntKind.signed]
  omega
 rw [h]
 generalize BitVec.ofInt 64 fl = a
 generalize BitVec.ofInt 64 m = b
 constructor
 ·intro h
  ext i hi
  have := congrArg (fun v => v.getLsbD i) h
  simp at this ⊢
  have := congrArg (fun v : BitVec 64 => v[i]) h
  simp at this
  intro ha
  exact this ha
 ·intro h
  ext i hi
  have := congrArg (fun v : BitVec 64 => v[i]) h
  simp at this ⊢
  exact this
theorem and_4 : ∀ n : Nat, n < 9 → n &&& 4 = n → n = 0 ∨ n = 4 := by decide
theorem and_8 : ∀ n : Nat, n < 9 → n &&& 8 = n → n = 0 ∨ n = 8 := by decide
theorem clr_ok {op fl : Int} (hl : -9223372036854775808 ≤ fl) (hu : fl < 9223372036854775808) : decide (clrI fl (flgI op) = 0) = flOk op fl := by
 have key : ∀ m : Nat, m < 16 → (clrI fl (m : Int) = 0 ↔ (fl % 18446744073709551616).toNat &&& m = (fl % 18446744073709551616).toNat) := by
  intro m hm
  rw [clr_iff, ← BitVec.toNat_inj, BitVec.toNat_and]
  have hm2 : (BitVec.ofInt 64 (m : Int)).toNat = m := by
   rw [BitVec.toNat_ofInt]; simp; omega
  rw [hm2, BitVec.toNat_ofInt]
  rfl
 have hm : flgI op = 3 ∨ flgI op = 4 ∨ flgI op = 8 ∨ flgI op = 0 := by
  unfold flgI
  repeat' split
  all_goals simp
 unfold flOk
 rcases hm with h | h | h | h
 ·rw [h]
  have := key 3 (by omega)
  simp only [if_true]
  apply decide_eq_decide.2
  rw [show ((3 : Int)) = ((3 : Nat) : Int) from rfl, this, show (3 : Nat) = 2 ^ 2 - 1 from rfl, Nat.and_two_pow_sub_one_eq_mod]
  omega
 ·rw [h]
  have := key 4 (by omega)
  simp only [if_true, show ¬ (4 : Int) = 3 by omega, if_false]
  apply decide_eq_decide.2
  rw [show ((4 : Int)) = ((4 : Nat) : Int) from rfl, this]
  refine ⟨fun h => ?_, ?_⟩
  ·have hle := Nat.and_le_right (n := (fl % 18446744073709551616).toNat) (m := 4)
   generalize hn : (fl % 18446744073709551616).toNat = n at *
   have := and_4 n (by omega) h
   omega
  ·rintro (rfl | rfl) <;> rfl
 ·rw [h]
  have := key 8 (by omega)
  simp only [if_true, show ¬ (8 : Int) = 3 by omega, show ¬ (8 : Int) = 4 by omega, if_false]
  apply decide_eq_decide.2
  rw [show ((8 : Int)) = ((8 : Nat) : Int) from rfl, this]
  refine ⟨fun h => ?_, ?_⟩
  ·have hle := Nat.and_le_right (n := (fl % 18446744073709551616).toNat) (m := 8)
   generalize hn : (fl % 18446744073709551616).toNat = n at *
   have := and_8 n (by omega) h
   omega
  ·rintro (rfl | rfl) <;> rfl
 ·rw [h]
  have := key 0 (by omega)
  simp only [show ¬ (0 : Int) = 3 by omega, show ¬ (0 : Int) = 4 by omega, show ¬ (0 : Int) = 8 by omega, if_false]
  apply decide_eq_decide.2
  refine Iff.trans this ?_
  rw [Nat.and_zero]
  omega
end Go.Proofs.YtbbbflnnbbaamaaGreatDoor.PK
namespace Go.Proofs.YtbbbflnnbbaamaaGreatDoor.PK
open Go.RowKit

theorem held_7 {F : Fun} {A : FunA} {x : Ins} {aa ta : Option Addr} {ca ct p na nt q B : Nat} {ag tg : Int} {w w1 w2 : World} (h : w1.cell? ⟨q, 3, none⟩ = some (.slice A.ba F.bs.length A.bc) ∧ w1.cell? ⟨q + 1, 0, none⟩ = some (.int .i64 x.op) ∧ w1.cell? ⟨q + 1, 2, none⟩ = some (.int .i64 x.fl) ∧ w1.cell? ⟨q + 1, 3, none⟩ = some (.slice aa na ca) ∧ w1.cell? ⟨q + 1, 5, none⟩ = some (.slice ta nt ct) ∧ w1.cell? ⟨p, 0, none⟩ = some (.int .i64 ag) ∧ w1.cell? ⟨p, 1, none⟩ = some (.int .i64 tg) ∧ Below B w w1 ∧ B ≤ w1.heap.size) (hb : Below w1.heap.size w1 w2) :
  w2.cell? ⟨q, 3, none⟩ = some (.slice A.ba F.bs.length A.bc) ∧ w2.cell? ⟨q + 1, 0, none⟩ = some (.int .i64 x.op) ∧ w2.cell? ⟨q + 1, 2, none⟩ = some (.int .i64 x.fl) ∧ w2.cell? ⟨q + 1, 3, none⟩ = some (.slice aa na ca) ∧ w2.cell? ⟨q + 1, 5, none⟩ = some (.slice ta nt ct) ∧ w2.cell? ⟨p, 0, none⟩ = some (.int .i64 ag) ∧ w2.cell? ⟨p, 1, none⟩ = some (.int .i64 tg) ∧ Below B w w2 ∧ B ≤ w2.heap.size := by
 obtain ⟨h0, h1, h2, h3, h4, h5, h6, h7, h8⟩ := h
 exact ⟨keep h0 hb, keep h1 hb, keep h2 hb, keep h3 hb, keep h4 hb, keep h5 hb, keep h6 hb, h7.trans (hb.mono h8), Nat.le_trans h8 hb.size⟩
theorem bne_clr (a b : Int) : (bits BinOp.andNot IntKind.i64 a b != 0) = !decide (clrI a b = 0) := by
 show (clrI a b != 0) = _
 rw [bne]; rfl
theorem cls_16 {op : Int} : clsI op = 16 ↔ op = 30 := by
 unfold clsI
 constructor
 ·intro h
  by_cases h30 : op = 30
  ·exact h30
  ·exfalso
   rw [if_neg h30] at h
   repeat' split at h
   all_goals omega
 ·rintro rfl; rfl
theorem shapeB_ok {F : Fun} {x : Ins} (h : okI F.sl.length x = false) : shapeB F x = false := by
 unfold okI at h
 unfold shapeB
 cases hf : formI F.sl.length x
 ·simp
 ·rw [hf] at h
  simp only [Bool.true_and, Bool.not_eq_false', Bool.and_eq_true, decide_eq_true_eq] at h
  obtain ⟨h1, h2, h3⟩ := h
  rw [show (decide (x.op = 30) && decide (x.tt.getD 0 0 = x.tt.getD 1 0)) = true by rw [decide_eq_true (cls_16.1 h1), decide_eq_true h3]; rfl]
  simp
theorem shapeB_all {F : Fun} {x : Ins} (h : okI F.sl.length x = true) (ha : (x.ar.length : Int) = argsI F.ret x) (ht : (x.tt.length : Int) = tosI x) (hf : flOk x.op x.fl = true) :
  shapeB F x = !(x.tt.any fun b => !decide (0 ≤ b ∧ b < F.bs.length)) := by
 unfold okI at h
 rw [Bool.and_eq_true] at h
 obtain ⟨h1, h2⟩ := h
 have hc : clsI x.op ≠ 0 := by
  intro hc
  unfold formI at h1
  rw [hc] at h1
  simp at h1
 have hb : (!(decide (x.op = 30) && decide (x.tt.getD 0 0 = x.tt.getD 1 0))) = true := by
  by_cases h30 : x.op = 30
  ·have hc := cls_16.2 h30
   have h2l : x.tt.length = 2 := by
    have : tosI x = 2 := by unfold tosI; rw [hc]; rfl
    omega
   rw [hc, h2l] at h2
   simpa [h30] using h2
  ·simp [h30]
 unfold shapeB
 rw [h1, hf, hb]
 simp only [ha, ht, hc, ne_eq, not_false_eq_true, decide_true, Bool.true_and]
 rw [List.not_any_eq_all_not]
 congr 1
 funext b
 simp
theorem shp1_enter : ∀ args w, (callFunc 105 args).run Tryz.prog w = .ok (.enter 105 args) w := enters_of Tryz.func105 (by kernel_rfl) rfl
set_option maxRecDepth 100000 in
set_option maxHeartbeats 4000000 in
theorem isShaped_any (F : Fun) (A : FunA) (x : Ins) (aa ta : Option Addr) (ca ct : Nat) (w : World) (ha : IntsIn w aa x.ar) (ht : IntsIn w ta x.tt) (him : x.im < 4294967296) (hsl : F.sl.length ≤ 1000) (hfl : -9223372036854775808 ≤ x.fl ∧ x.fl < 9223372036854775808) (htl : (x.tt.length : Int) ≤ 1099511627776) :
  Calls Tryz.prog 67 #[funV F A, insV x aa ta ca ct] w fun e w' => e = .returned (.bool (shapeB F x)) ∧ Below w.heap.size w w' := by
 have HS : Hid (∀ W, Below w.heap.size w W → Calls Tryz.prog 103 #[funV F A, insV x aa ta ca ct] W (ShapePost F x W)) := Lib.hid (fun W hb => shapeOf_any F A x aa ta ca ct W (ha.below hb) (ht.below hb) him hsl)
 have HHa := Lib.hid ha; have HHt := Lib.hid ht
 clear ha ht
 simp only [funV, funC, insV] at HS ⊢
 generalize hsb : shapeB F x = sb
 have HSb := Lib.hid hsb; clear hsb
 go_enter Tryz.func67, Tryz.ntmps67
 go_upto_region 1 with fail
 have hx := insAt_new (w.alloc (.cells #[.slice A.pa F.ps.length A.pc, .int .i64 F.ret, .slice A.sa F.sl.length A.sc, .slice A.ba F.bs.length A.bc] 31)) x aa ta ca ct 63 (HHa.out.below ((Below.refl _ _).alloc (Nat.le_refl _) _)) (HHt.out.below ((Below.refl _ _).alloc (Nat.le_refl _) _))
 have HBb : Hid (Below w.heap.size w ((w.alloc (.cells #[.slice A.pa F.ps.length A.pc, .int .i64 F.ret, .slice A.sa F.sl.length A.sc, .slice A.ba F.bs.length A.bc] 31)).alloc (.cells #[.int .i64 x.op, .int .i64 x.wd, .int .i64 x.fl, .slice aa x.ar.length ca, .int .u32 x.im, .slice ta x.tt.length ct] 63))) := Lib.hid (((Below.refl w.heap.size w).alloc (Nat.le_refl _) _).alloc (by simp) _)
 have f0 : ((w.alloc (.cells #[.slice A.pa F.ps.length A.pc, .int .i64 F.ret, .slice A.sa F.sl.length A.sc, .slice A.ba F.bs.length A.bc] 31)).alloc (.cells #[.int .i64 x.op, .int .i64 x.wd, .int .i64 x.fl, .slice aa x.ar.length ca, .int .u32 x.im, .slice ta x.tt.length ct] 63)).cell? ⟨w.heap.size, 0, none⟩ = some (.slice A.pa F.ps.length A.pc) := by simp [go_sem]
 have f1 : ((w.alloc (.cells #[.slice A.pa F.ps.length A.pc, .int .i64 F.ret, .slice A.sa F.sl.length A.sc, .slice A.ba F.bs.length A.bc] 31)).alloc (.cells #[.int .i64 x.op, .int .i64 x.wd, .int .i64 x.fl, .slice aa x.ar.length ca, .int .u32 x.im, .slice ta x.tt.length ct] 63)).cell? ⟨w.heap.size, 1, none⟩ = some (.int .i64 F.ret) := by simp [go_sem]
 have f2 : ((w.alloc (.cells #[.slice A.pa F.ps.length A.pc, .int .i64 F.ret, .slice A.sa F.sl.length A.sc, .slice A.ba F.bs.length A.bc] 31)).alloc (.cells #[.int .i64 x.op, .int .i64 x.wd, .int .i64 x.fl, .slice aa x.ar.length ca, .int .u32 x.im, .slice ta x.tt.length ct] 63)).cell? ⟨w.heap.size, 2, none⟩ = some (.slice A.sa F.sl.length A.sc) := by simp [go_sem]
 have f3 : ((w.alloc (.cells #[.slice A.pa F.ps.length A.pc, .int .i64 F.ret, .slice A.sa F.sl.length A.sc, .slice A.ba F.bs.length A.bc] 31)).alloc (.cells #[.int .i64 x.op, .int .i64 x.wd, .int .i64 x.fl, .slice aa x.ar.length ca, .int .u32 x.im, .slice ta x.tt.length ct] 63)).cell? ⟨w.heap.size, 3, none⟩ = some (.slice A.ba F.bs.length A.bc) := by simp [go_sem]
 rw [show (w.alloc (.cells #[.slice A.pa F.ps.length A.pc, .int .i64 F.ret, .slice A.sa F.sl.length A.sc, .slice A.ba F.bs.length A.bc] 31)).heap.size = w.heap.size + 1 by simp] at hx
 generalize ((w.alloc (.cells #[.slice A.pa F.ps.length A.pc, .int .i64 F.ret, .slice A.sa F.sl.length A.sc, .slice A.ba F.bs.length A.bc] 31)).alloc (.cells #[.int .i64 x.op, .int .i64 x.wd, .int .i64 x.fl, .slice aa x.ar.length ca, .int .u32 x.im, .slice ta x.tt.length ct] 63)) = w0 at *
 obtain ⟨c0, c1, c2, c3, c4, c5, _, hit⟩ := hx
 clear hit
 simp only [Nat.zero_add] at c1 c2 c3 c4 c5
 go_wp2_with (first | (go_at_call 103; refine (HS.out _ (by first | exact HBb.out | exact HBb.out.trans (((Below.refl _ _).alloc (Nat.le_refl _) _).mono HBb.out.size) | exact HBb.out.trans ((Below.refl _ _).mono HBb.out.size))).mono ?_; rintro e w5 ⟨rfl, hb5⟩))
 have HB6 : Hid (Below w.heap.size w (w5.alloc (.cells #[.int .i64 (argsI F.ret x), .int .i64 (tosI x)] 151))) := Lib.hid ((HBb.out.trans (hb5.mono HBb.out.size)).alloc (Nat.le_trans HBb.out.size hb5.size) _)
 have hb6 : Below w0.heap.size w0 (w5.alloc (.cells #[.int .i64 (argsI F.ret x), .int .i64 (tosI x)] 151)) := hb5.alloc hb5.size _
 have e3 := keep f3 hb6
 have x0 := keep c0 hb6; have x2 := keep c2 hb6; have x3 := keep c3 hb6; have x5 := keep c5 hb6
 have s0 : (w5.alloc (.cells #[.int .i64 (argsI F.ret x), .int .i64 (tosI x)] 151)).cell? ⟨w5.heap.size, 0, none⟩ = some (.int .i64 (argsI F.ret x)) := by simp [go_sem]
 have s1 : (w5.alloc (.cells #[.int .i64 (argsI F.ret x), .int .i64 (tosI x)] 151)).cell? ⟨w5.heap.size, 1, none⟩ = some (.int .i64 (tosI x)) := by simp [go_sem]
 clear f0 f1 f2 f3 c0 c1 c2 c3 c4 c5 hb5 hb6 HS
 generalize (w5.alloc (.cells #[.int .i64 (argsI F.ret x), .int .i64 (tosI x)] 151)) = w6 at *
 generalize w5.heap.size = p at *
 have HF := Lib.hid (flagsOf_any x.op)
 generalize hok : okI F.sl.length x = ok at *
 generalize hag : argsI F.ret x = ag at *
 generalize htg : tosI x = tg at *
 have HOk := Lib.hid hok; clear hok
 have HAg := Lib.hid hag; clear hag
 have HTg := Lib.hid htg; clear htg
 generalize hna : x.ar.length = na at *
 have HNa := Lib.hid hna; clear hna
 generalize hnt : x.tt.length = nt at *
 have HNt := Lib.hid hnt; clear hnt
 cases ok
 ·obtain rfl : sb = false := by rw [← HSb.out]; exact shapeB_ok HOk.out
  go_region
  go_wp2_with fail
  go_ret
  exact ⟨rfl, below_drew1 HB6.out⟩
 ·by_cases hna : (na : Int) = ag
  ·have q1 : ((na : Int) != ag) = false := by simp [hna]
   have HNA := Lib.hid hna
   by_cases hnt : (nt : Int) = tg
   ·have q2 : ((nt : Int) != tg) = false := by simp [hnt]
    have HNT := Lib.hid hnt
    clear hna hnt
    have HB7 : Hid (w.heap.size ≤ w6.heap.size) := Lib.hid HB6.out.size
    obtain ⟨B, hB⟩ : ∃ B, w6.heap.size = B := ⟨_, rfl⟩
    have hS : w6.cell? ⟨w.heap.size, 3, none⟩ = some (.slice A.ba F.bs.length A.bc) ∧ w6.cell? ⟨w.heap.size + 1, 0, none⟩ = some (.int .i64 x.op) ∧ w6.cell? ⟨w.heap.size + 1, 2, none⟩ = some (.int .i64 x.fl) ∧ w6.cell? ⟨w.heap.size + 1, 3, none⟩ = some (.slice aa na ca) ∧ w6.cell? ⟨w.heap.size + 1, 5, none⟩ = some (.slice ta nt ct) ∧ w6.cell? ⟨p, 0, none⟩ = some (.int .i64 ag) ∧ w6.cell? ⟨p, 1, none⟩ = some (.int .i64 tg) ∧ Below B w6 w6 ∧ B ≤ w6.heap.size := ⟨e3, x0, x2, x3, x5, s0, s1, Below.refl _ _, Nat.le_of_eq hB.symm⟩
    have HBq := Lib.hid hB; clear hB
    go_region_held3 (fun w' => w'.cell? ⟨w.heap.size, 3, none⟩ = some (.slice A.ba F.bs.length A.bc) ∧ w'.cell? ⟨w.heap.size + 1, 0, none⟩ = some (.int .i64 x.op) ∧ w'.cell? ⟨w.heap.size + 1, 2, none⟩ = some (.int .i64 x.fl) ∧ w'.cell? ⟨w.heap.size + 1, 3, none⟩ = some (.slice aa na ca) ∧ w'.cell? ⟨w.heap.size + 1, 5, none⟩ = some (.slice ta nt ct) ∧ w'.cell? ⟨p, 0, none⟩ = some (.int .i64 ag) ∧ w'.cell? ⟨p, 1, none⟩ = some (.int .i64 tg) ∧ Below B w6 w' ∧ B ≤ w'.heap.size)
     (first | exact hS | exact held_7 hS (below_drew1 (Below.refl _ _)) | exact held_7 (by assumption) (by assumption) | exact held_7 (by assumption) ((Below.refl _ _).alloc (Nat.le_refl _) _))
     (first | (go_at_call 104; refine (HF.out _).mono ?_; rintro e w7 ⟨rfl, rfl⟩))
    rename_i hH
    obtain ⟨g3, g0, g2, h3, h5, _, _, hbB, hBs⟩ := hH
    have hby : (bits BinOp.andNot IntKind.i64 x.fl (flgI x.op) != 0) = !flOk x.op x.fl := by
     rw [← clr_ok hfl.1 hfl.2]; exact bne_clr _ _
    generalize (bits BinOp.andNot IntKind.i64 x.fl (flgI x.op) != 0) = nz at *
    generalize bits BinOp.andNot IntKind.i64 x.fl (flgI x.op) = nv at *
    have HBy := Lib.hid hby
    cases nz
    ·obtain rfl := HNt.out
     have hfo : flOk x.op x.fl = true := by simpa using hby.symm
     have hsb : sb = !(x.tt.any fun b => !decide (0 ≤ b ∧ b < F.bs.length)) := by
      rw [← HSb.out]; exact shapeB_all HOk.out (by rw [HNa.out, HAg.out]; exact HNA.out) (by rw [HTg.out]; exact HNT.out) hfo
     have HSb2 := Lib.hid hsb
     have h6d : Below w.heap.size w w6.drew := below_drew1 HB6.out
     have HCn := Lib.hid (conI_any 105 #[.pointer (some ⟨w.heap.size, 0, none⟩)] shp1_enter (fun b => !decide (0 ≤ b ∧ b < F.bs.length)) x.tt ta ct w6.drew (HHt.out.below h6d) htl (fun k W hk hb => shapedC_any F w.heap.size _ A.ba A.bc W (keep g3 hb)))
     have H6d := Lib.hid h6d
     clear hsb h6d hby hfo
     go_wp2_with (first | (go_at_call 77; refine HCn.out.mono ?_; rintro e w8 ⟨rfl, hb8⟩))
     go_ret
     exact ⟨ret_bool (by rw [HSb2.out]; simp), H6d.out.trans (hb8.mono H6d.out.size)⟩
    ·obtain rfl : sb = false := by rw [← HSb.out]; unfold shapeB; rw [show flOk x.op x.fl = false by simpa using hby.symm]; simp
     clear hby
     go_wp2_with fail
     go_ret
     exact ⟨rfl, below_drew1 HB6.out⟩
   ·have q2 : ((nt : Int) != tg) = true := by simp [hnt]
    have HNT := Lib.hid hnt
    obtain rfl : sb = false := by rw [← HSb.out]; unfold shapeB; rw [HNt.out, HTg.out]; simp [HNT.out]
    clear hna hnt
    go_region
    go_wp2_with fail
    go_ret
    exact ⟨rfl, below_drew1 HB6.out⟩
  ·have q1 : ((na : Int) != ag) = true := by simp [hna]
   have HNA := Lib.hid hna
   obtain rfl : sb = false := by rw [← HSb.out]; unfold shapeB; rw [HNa.out, HAg.out]; simp [HNA.out]
   clear hna
   go_region
   go_wp2_with fail
   go_ret
   exact ⟨rfl, below_drew1 HB6.out⟩
end Go.Proofs.YtbbbflnnbbaamaaGreatDoor.PK
