/- Packed of several texts. -/
import Derived.Test.YtbbbflnnbbaamaaGreatDoorH18
import Derived.Test.YtbbbflnnbbaamaaGreatDoorH10
import Derived.Test.YtbbbflnnbbaamaaGreatDoorH11
import Derived.Test.YtbbbflnnbbaamaaGreatDoorH15
namespace Go.Proofs.YtbbbflnnbbaamaaGreatDoor.PK
open Go.RowKit

noncomputable def thrB (F : Fun) (v : Int) (b : Nat) (at' : Int) : Bool :=
 if (whI F v).1 < 0 then true else if (whI F v).1 = (b : Int) then decide (at' < 0) || decide ((whI F v).2 < at') else FL.domB (FL.gN (gI F)) (whI F v).1.toNat b
theorem whI_lt {F : Fun} {v : Int} (h : ¬ (whI F v).1 < 0) : (whI F v).1 < (F.bs.length : Int) := by
 unfold whI at *
 by_cases c : (F.ps.length : Int) ≤ v ∧ v < (F.ps.length + sumI F.bs F.bs.length : Nat)
 ·rw [if_pos c]
  have := (locI_is F.bs (v.toNat - F.ps.length) (by omega)).1
  show ((locI F.bs (v.toNat - F.ps.length)).1 : Int) < _
  omega
 ·rw [if_neg c] at h
  exact absurd (show (-1 : Int) < 0 by decide) h
set_option maxRecDepth 100000 in
theorem there_any (F : Fun) (A : FunA) (ga : Option Addr) (gc : Nat) (v : Int) (b : Nat) (at' : Int) (w : World) (hin : FunIn w F A) (hs : FunSm F) (hg : RowsIn w ga (gI F)) (ok : FL.OkG (FL.gN (gI F))) (hr : ∀ k x, k < (gI F).length → x ∈ (gI F).getD k [] → 0 ≤ x ∧ x < (gI F).length) (hb : b < F.bs.length) :
  Calls Tryz.prog 96 #[funV F A, .slice ga (gI F).length gc, .int .i64 v, .int .i64 (b : Nat), .int .i64 at'] w fun e w' => e = .returned (.bool (thrB F v b at')) ∧ Below w.heap.size w w' := by
 have hal : Below w.heap.size w (w.alloc (.cells #[.slice A.pa F.ps.length A.pc, .int .i64 F.ret, .slice A.sa F.sl.length A.sc, .slice A.ba F.bs.length A.bc] 31)) := (Below.refl _ _).alloc (Nat.le_refl _) _
 have HWh := Lib.hid (where_any F A v _ (hin.below hal) hs)
 have hr0 : (w.alloc (.cells #[.slice A.pa F.ps.length A.pc, .int .i64 F.ret, .slice A.sa F.sl.length A.sc, .slice A.ba F.bs.length A.bc] 31)).heap[w.heap.size]? = some (.cells (funC F A) 31 (0, 0)) := heap_alloc_new _ _
 obtain ⟨g0, g1, g2, g3⟩ := funC_at hr0
 have HB0 := Lib.hid hal
 have HG := Lib.hid (hg.below hal)
 have HLt := Lib.hid (whI_lt (F := F) (v := v))
 have HT : Hid (thrB F v b at' = if (whI F v).1 < 0 then true else if (whI F v).1 = (b : Int) then decide (at' < 0) || decide ((whI F v).2 < at') else FL.domB (FL.gN (gI F)) (whI F v).1.toNat b) := Lib.hid rfl
 have HDm := Lib.hid (fun (a : Nat) u (h : RowsIn u ga (gI F)) (ha : a < F.bs.length) => rdominates_any (gI F) ga gc a b u h ok hr (by rw [gI_len]; exact ha) (by rw [gI_len]; exact hb))
 clear hin hs hg ok hr hal hr0
 generalize thrB F v b at' = R at *
 generalize whI F v = u at *
 obtain ⟨u1, u2⟩ := u
 simp only at HT HLt
 generalize FL.gN (gI F) = G at *
 generalize (gI F).length = gl at *
 simp only [funV, funC] at HWh ⊢
 go_enter Tryz.func96, Tryz.ntmps96
 go_upto_region 1 with fail
 generalize w.alloc (.cells #[.slice A.pa F.ps.length A.pc, .int .i64 F.ret, .slice A.sa F.sl.length A.sc, .slice A.ba F.bs.length A.bc] 31) = w1 at *
 go_wp2_with fail
 refine HWh.out.mono ?_; rintro e w2 ⟨rfl, hb2⟩
 have HB2 := Lib.hid (HB0.out.trans (hb2.mono HB0.out.size))
 have HZ2 := Lib.hid (Nat.le_trans HB0.out.size hb2.size)
 have HG2 := Lib.hid (HG.out.below hb2)
 clear hb2 g0 g1 g2 g3
 by_cases h1 : u1 < 0
 ·obtain rfl : R = true := HT.out.trans (if_pos h1)
  go_wp2_with fail
  go_ret
  exact ⟨rfl, HB2.out⟩
 have hlt := HLt.out (by omega)
 obtain ⟨a, rfl⟩ : ∃ a : Nat, u1 = (a : Int) := ⟨u1.toNat, by omega⟩
 have HD := Lib.hid (HDm.out a w2 HG2.out (by omega))
 by_cases h2 : (a : Int) = (b : Int)
 ·have q : ((a : Int) == (b : Int)) = true := by simp [h2]
  have HT2 : Hid (R = (decide (at' < 0) || decide (u2 < at'))) := Lib.hid (HT.out.trans ((if_neg h1).trans (if_pos h2)))
  clear h2 h1 hlt
  by_cases h3 : at' < 0
  ·obtain rfl : R = true := by rw [HT2.out]; simp [h3]
   go_wp2_with fail
   go_ret
   exact ⟨rfl, HB2.out⟩
  ·by_cases h4 : u2 < at'
   ·obtain rfl : R = true := by rw [HT2.out]; simp [h4]
    go_wp2_with fail
    go_ret
    exact ⟨rfl, HB2.out⟩
   ·have HR : Hid ((decide (at' < 0) || decide (u2 < at')) = R) := Lib.hid HT2.out.symm
    go_wp2_with fail
    go_ret
    refine ⟨?_, HB2.out⟩
    rw [← HR.out]; rfl
 ·have q : ((a : Int) == (b : Int)) = false := by simp; omega
  have HR : Hid (FL.domB G a b = R) := Lib.hid (HT.out.trans ((if_neg h1).trans ((if_neg h2).trans (by rw [Int.toNat_natCast])))).symm
  rw [HR.out] at HD
  have h1' : ¬ (a : Int) < 0 := by omega
  clear h2 hlt
  go_wp2_with fail
  refine HD.out.mono ?_; rintro e w3 ⟨rfl, hb3⟩
  have HB3 := Lib.hid (HB2.out.trans (hb3.mono HZ2.out))
  clear hb3
  go_wp2_with fail
  go_ret
  exact ⟨rfl, HB3.out⟩
end Go.Proofs.YtbbbflnnbbaamaaGreatDoor.PK
namespace Go.Proofs.YtbbbflnnbbaamaaGreatDoor.PK
open Go.RowKit

set_option maxHeartbeats 4000000 in
theorem classOf_any (op : Int) (w : World) : Calls Tryz.prog 112 #[.int .i64 op] w fun e w' => e = .returned (.int .i64 (clsI op)) ∧ w = w' := by
 have HR : Hid (∀ v, v = clsI op → Ending.returned (.int .i64 v) = .returned (.int .i64 (clsI op))) := Lib.hid (fun v h => by rw [h])
 generalize hs : clsI op = r at *
 have HS := Lib.hid hs; clear hs
 by_cases h : op < 0
 ·go_enter Tryz.func112, Tryz.ntmps112
  go_wp2_with fail
  go_ret
  exact ⟨HR.out _ (by rw [← HS.out]; unfold clsI; (repeat' split) <;> omega), rfl⟩
 by_cases h : 1 ≤ op ∧ op ≤ 13
 ·obtain ⟨h1, h2⟩ := h
  go_enter Tryz.func112, Tryz.ntmps112
  go_wp2_with fail
  go_ret
  exact ⟨HR.out _ (by rw [← HS.out]; unfold clsI; (repeat' split) <;> omega), rfl⟩
 by_cases h : 32 < op
 ·go_enter Tryz.func112, Tryz.ntmps112
  go_wp2_with fail
  go_ret
  exact ⟨HR.out _ (by rw [← HS.out]; unfold clsI; (repeat' split) <;> omega), rfl⟩
 by_cases h : op = 0
 ·subst h
  go_enter Tryz.func112, Tryz.ntmps112
  go_wp2_with fail
  go_ret
  exact ⟨HR.out _ (by rw [← HS.out]; unfold clsI; rfl), rfl⟩
 by_cases h : op = 14
 ·subst h
  go_enter Tryz.func112, Tryz.ntmps112
  go_wp2_with fail
  go_ret
  exact ⟨HR.out _ (by rw [← HS.out]; unfold clsI; rfl), rfl⟩
 by_cases h : op = 15
 ·subst h
  go_enter Tryz.func112, Tryz.ntmps112
  go_wp2_with fail
  go_ret
  exact ⟨HR.out _ (by rw [← HS.out]; unfold clsI; rfl), rfl⟩
 by_cases h : op = 16
 ·subst h
  go_enter Tryz.func112, Tryz.ntmps112
  go_wp2_with fail
  go_ret
  exact ⟨HR.out _ (by rw [← HS.out]; unfold clsI; rfl), rfl⟩
 by_cases h : op = 17
 ·subst h
  go_enter Tryz.func112, Tryz.ntmps112
  go_wp2_with fail
  go_ret
  exact ⟨HR.out _ (by rw [← HS.out]; unfold clsI; rfl), rfl⟩
 by_cases h : op = 18
 ·subst h
  go_enter Tryz.func112, Tryz.ntmps112
  go_wp2_with fail
  go_ret
  exact ⟨HR.out _ (by rw [← HS.out]; unfold clsI; rfl), rfl⟩
 by_cases h : op = 19
 ·subst h
  go_enter Tryz.func112, Tryz.ntmps112
  go_wp2_with fail
  go_ret
  exact ⟨HR.out _ (by rw [← HS.out]; unfold clsI; rfl), rfl⟩
 by_cases h : op = 20
 ·subst h
  go_enter Tryz.func112, Tryz.ntmps112
  go_wp2_with fail
  go_ret
  exact ⟨HR.out _ (by rw [← HS.out]; unfold clsI; rfl), rfl⟩
 by_cases h : op = 21
 ·subst h
  go_enter Tryz.func112, Tryz.ntmps112
  go_wp2_with fail
  go_ret
  exact ⟨HR.out _ (by rw [← HS.out]; unfold clsI; rfl), rfl⟩
 by_cases h : op = 22
 ·subst h
  go_enter Tryz.func112, Tryz.ntmps112
  go_wp2_with fail
  go_ret
  exact ⟨HR.out _ (by rw [← HS.out]; unfold clsI; rfl), rfl⟩
 by_cases h : op = 23
 ·subst h
  go_enter Tryz.func112, Tryz.ntmps112
  go_wp2_with fail
  go_ret
  exact ⟨HR.out _ (by rw [← HS.out]; unfold clsI; rfl), rfl⟩
 by_cases h : op = 24
 ·subst h
  go_enter Tryz.func112, Tryz.ntmps112
  go_wp2_with fail
  go_ret
  exact ⟨HR.out _ (by rw [← HS.out]; unfold clsI; rfl), rfl⟩
 by_cases h : op = 25
 ·subst h
  go_enter Tryz.func112, Tryz.ntmps112
  go_wp2_with fail
  go_ret
  exact ⟨HR.out _ (by rw [← HS.out]; unfold clsI; rfl), rfl⟩
 by_cases h : op = 26
 ·subst h
  go_enter Tryz.func112, Tryz.ntmps112
  go_wp2_with fail
  go_ret
  exact ⟨HR.out _ (by rw [← HS.out]; unfold clsI; rfl), rfl⟩
 by_cases h : op = 27
 ·subst h
  go_enter Tryz.func112, Tryz.ntmps112
  go_wp2_with fail
  go_ret
  exact ⟨HR.out _ (by rw [← HS.out]; unfold clsI; rfl), rfl⟩
 by_cases h : op = 28
 ·subst h
  go_enter Tryz.func112, Tryz.ntmps112
  go_wp2_with fail
  go_ret
  exact ⟨HR.out _ (by rw [← HS.out]; unfold clsI; rfl), rfl⟩
 by_cases h : op = 29
 ·subst h
  go_enter Tryz.func112, Tryz.ntmps112
  go_wp2_with fail
  go_ret
  exact ⟨HR.out _ (by rw [← HS.out]; unfold clsI; rfl), rfl⟩
 by_cases h : op = 30
 ·subst h
  go_enter Tryz.func112, Tryz.ntmps112
  go_wp2_with fail
  go_ret
  exact ⟨HR.out _ (by rw [← HS.out]; unfold clsI; rfl), rfl⟩
 by_cases h : op = 31
 ·subst h
  go_enter Tryz.func112, Tryz.ntmps112
  go_wp2_with fail
  go_ret
  exact ⟨HR.out _ (by rw [← HS.out]; unfold clsI; rfl), rfl⟩
 by_cases h : op = 32
 ·subst h
  go_enter Tryz.func112, Tryz.ntmps112
  go_wp2_with fail
  go_ret
  exact ⟨HR.out _ (by rw [← HS.out]; unfold clsI; rfl), rfl⟩
 exfalso
 omega
set_option maxHeartbeats 4000000 in
theorem flagsOf_any (op : Int) (w : World) : Calls Tryz.prog 104 #[.int .i64 op] w fun e w' => e = .returned (.int .i64 (flgI op)) ∧ w = w' := by
 have HR : Hid (∀ v, v = flgI op → Ending.returned (.int .i64 v) = .returned (.int .i64 (flgI op))) := Lib.hid (fun v h => by rw [h])
 generalize hs : flgI op = r at *
 have HS := Lib.hid hs; clear hs
 by_cases h : op < 1
 ·go_enter Tryz.func104, Tryz.ntmps104
  go_wp2_with fail
  go_ret
  exact ⟨HR.out _ (by rw [← HS.out]; unfold flgI; (repeat' split) <;> omega), rfl⟩
 by_cases h : 25 < op
 ·go_enter Tryz.func104, Tryz.ntmps104
  go_wp2_with fail
  go_ret
  exact ⟨HR.out _ (by rw [← HS.out]; unfold flgI; (repeat' split) <;> omega), rfl⟩
 by_cases h : op = 1
 ·subst h
  go_enter Tryz.func104, Tryz.ntmps104
  go_wp2_with fail
  go_ret
  exact ⟨HR.out _ (by rw [← HS.out]; unfold flgI; rfl), rfl⟩
 by_cases h : op = 2
 ·subst h
  go_enter Tryz.func104, Tryz.ntmps104
  go_wp2_with fail
  go_ret
  exact ⟨HR.out _ (by rw [← HS.out]; unfold flgI; rfl), rfl⟩
 by_cases h : op = 3
 ·subst h
  go_enter Tryz.func104, Tryz.ntmps104
  go_wp2_with fail
  go_ret
  exact ⟨HR.out _ (by rw [← HS.out]; unfold flgI; rfl), rfl⟩
 by_cases h : op = 4
 ·subst h
  go_enter Tryz.func104, Tryz.ntmps104
  go_wp2_with fail
  go_ret
  exact ⟨HR.out _ (by rw [← HS.out]; unfold flgI; rfl), rfl⟩
 by_cases h : op = 6
 ·subst h
  go_enter Tryz.func104, Tryz.ntmps104
  go_wp2_with fail
  go_ret
  exact ⟨HR.out _ (by rw [← HS.out]; unfold flgI; rfl), rfl⟩
 by_cases h : op = 11
 ·subst h
  go_enter Tryz.func104, Tryz.ntmps104
  go_wp2_with fail
  go_ret
  exact ⟨HR.out _ (by rw [← HS.out]; unfold flgI; rfl), rfl⟩
 by_cases h : op = 12
 ·subst h
  go_enter Tryz.func104, Tryz.ntmps104
  go_wp2_with fail
  go_ret
  exact ⟨HR.out _ (by rw [← HS.out]; unfold flgI; rfl), rfl⟩
 by_cases h : op = 13
 ·subst h
  go_enter Tryz.func104, Tryz.ntmps104
  go_wp2_with fail
  go_ret
  exact ⟨HR.out _ (by rw [← HS.out]; unfold flgI; rfl), rfl⟩
 by_cases h : op = 25
 ·subst h
  go_enter Tryz.func104, Tryz.ntmps104
  go_wp2_with fail
  go_ret
  exact ⟨HR.out _ (by rw [← HS.out]; unfold flgI; rfl), rfl⟩
 by_cases h : op = 5
 ·subst h
  go_enter Tryz.func104, Tryz.ntmps104
  go_wp2_with fail
  go_ret
  exact ⟨HR.out _ (by rw [← HS.out]; unfold flgI; rfl), rfl⟩
 by_cases h : 7 ≤ op ∧ op ≤ 10
 ·obtain ⟨h1, h2⟩ := h
  go_enter Tryz.func104, Tryz.ntmps104
  go_wp2_with fail
  go_ret
  exact ⟨HR.out _ (by rw [← HS.out]; unfold flgI; (repeat' split) <;> omega), rfl⟩
 by_cases h : 14 ≤ op ∧ op ≤ 24
 ·obtain ⟨h1, h2⟩ := h
  go_enter Tryz.func104, Tryz.ntmps104
  go_wp2_with fail
  go_ret
  exact ⟨HR.out _ (by rw [← HS.out]; unfold flgI; (repeat' split) <;> omega), rfl⟩
 exfalso
 omega
set_option maxHeartbeats 4000000 in
theorem isNumber_any (op : Int) (w : World) : Calls Tryz.prog 100 #[.int .i64 op] w fun e w' => e = .returned (.bool (isNum op)) ∧ w = w' := by
 have HR : Hid (∀ v, v = isNum op → Ending.returned (.bool v) = .returned (.bool (isNum op))) := Lib.hid (fun v h => by rw [h])
 generalize hs : isNum op = r at *
 have HS := Lib.hid hs; clear hs
 by_cases h : op < 1
 ·go_enter Tryz.func100, Tryz.ntmps100
  go_wp2_with fail
  go_ret
  exact ⟨HR.out _ (by rw [← HS.out]; unfold isNum; simp; omega), rfl⟩
 by_cases h : 1 ≤ op ∧ op ≤ 32
 ·obtain ⟨h1, h2⟩ := h
  go_enter Tryz.func100, Tryz.ntmps100
  go_wp2_with fail
  go_ret
  exact ⟨HR.out _ (by rw [← HS.out]; unfold isNum; simp; omega), rfl⟩
 by_cases h : 32 < op
 ·go_enter Tryz.func100, Tryz.ntmps100
  go_wp2_with fail
  go_ret
  exact ⟨HR.out _ (by rw [← HS.out]; unfold isNum; simp; omega), rfl⟩
 exfalso
 omega
set_option maxHeartbeats 4000000 in
theorem isMemory_any (op : Int) (w : World) : Calls Tryz.prog 113 #[.int .i64 op] w fun e w' => e = .returned (.bool (isMm op)) ∧ w = w' := by
 have HR : Hid (∀ v, v = isMm op → Ending.returned (.bool v) = .returned (.bool (isMm op))) := Lib.hid (fun v h => by rw [h])
 generalize hs : isMm op = r at *
 have HS := Lib.hid hs; clear hs
 by_cases h : op = 8
 ·subst h
  go_enter Tryz.func113, Tryz.ntmps113
  go_wp2_with fail
  go_ret
  exact ⟨HR.out _ (by rw [← HS.out]; unfold isMm; rfl), rfl⟩
 by_cases h : op = 16
 ·subst h
  go_enter Tryz.func113, Tryz.ntmps113
  go_wp2_with fail
  go_ret
  exact ⟨HR.out _ (by rw [← HS.out]; unfold isMm; rfl), rfl⟩
 by_cases h : op = 32
 ·subst h
  go_enter Tryz.func113, Tryz.ntmps113
  go_wp2_with fail
  go_ret
  exact ⟨HR.out _ (by rw [← HS.out]; unfold isMm; rfl), rfl⟩
 by_cases h : ¬ op = 8 ∧ ¬ op = 16 ∧ ¬ op = 32
 ·obtain ⟨h1, h2, h3⟩ := h
  go_enter Tryz.func113, Tryz.ntmps113
  go_wp2_with fail
  go_ret
  exact ⟨HR.out _ (by rw [← HS.out]; unfold isMm; simp [h1, h2, h3]), rfl⟩
 exfalso
 omega
set_option maxHeartbeats 4000000 in
theorem isLastI_any (op : Int) (w : World) : Calls Tryz.prog 106 #[.int .i64 op] w fun e w' => e = .returned (.bool (isLst op)) ∧ w = w' := by
 have HR : Hid (∀ v, v = isLst op → Ending.returned (.bool v) = .returned (.bool (isLst op))) := Lib.hid (fun v h => by rw [h])
 generalize hs : isLst op = r at *
 have HS := Lib.hid hs; clear hs
 by_cases h : op < 29
 ·go_enter Tryz.func106, Tryz.ntmps106
  go_wp2_with fail
  go_ret
  exact ⟨HR.out _ (by rw [← HS.out]; unfold isLst; simp; omega), rfl⟩
 by_cases h : 29 ≤ op ∧ op ≤ 32
 ·obtain ⟨h1, h2⟩ := h
  go_enter Tryz.func106, Tryz.ntmps106
  go_wp2_with fail
  go_ret
  exact ⟨HR.out _ (by rw [← HS.out]; unfold isLst; simp; omega), rfl⟩
 by_cases h : 32 < op
 ·go_enter Tryz.func106, Tryz.ntmps106
  go_wp2_with fail
  go_ret
  exact ⟨HR.out _ (by rw [← HS.out]; unfold isLst; simp; omega), rfl⟩
 exfalso
 omega
end Go.Proofs.YtbbbflnnbbaamaaGreatDoor.PK
namespace Go.Proofs.YtbbbflnnbbaamaaGreatDoor.PK
open Go.RowKit

theorem isNum_iff {n : Int} : isNum n = true ↔ 1 ≤ n ∧ n ≤ 32 := by simp [isNum]
def mxI (n : Int) : Int := 2 ^ n.toNat - 1
theorem powI_bd (n : Int) (h2 : n ≤ 32) : 1 ≤ (2 : Int) ^ n.toNat ∧ (2 : Int) ^ n.toNat ≤ 4294967296 := by
 have h : n.toNat ≤ 32 := by omega
 have h1 : 2 ^ n.toNat ≤ 2 ^ 32 := Nat.pow_le_pow_right (by decide) h
 have h0 : 0 < 2 ^ n.toNat := Nat.pow_pos (by decide)
 have e : ((2 ^ n.toNat : Nat) : Int) = (2 : Int) ^ n.toNat := by simp
 omega
theorem le_mxI {x : Nat} {n : Int} : (x : Int) ≤ mxI n ↔ x < 2 ^ n.toNat := by
 unfold mxI
 have e : ((2 ^ n.toNat : Nat) : Int) = (2 : Int) ^ n.toNat := by simp
 omega
theorem bWidth_any (n : Int) (w : World) : Calls Tryz.prog 60 #[.int .i64 n] w fun e w' => e = .returned (.bool (isNum n)) ∧ w = w' := by
 have HE : Hid (isNum n = (decide (1 ≤ n) && decide (n ≤ 32))) := Lib.hid (by unfold isNum; rw [Bool.eq_iff_iff]; simp)
 rw [HE.out]
 go_enter Tryz.func60, Tryz.ntmps60
 go_wp2
 ·go_ret; exact ⟨by simp [*], rfl⟩
 ·go_ret; exact ⟨by simp [*]; omega, rfl⟩
theorem wrapI_u64 (n : Int) (h0 : 0 ≤ n) (h1 : n ≤ 9007199254740992) : IntKind.u64.wrap n = n := by
 rw [IntKind.wrap_u64]; omega
theorem bmask_any (n : Int) (w : World) (h1 : 1 ≤ n) (h2 : n ≤ 32) : Calls Tryz.prog 61 #[.int .i64 n] w fun e w' => e = .returned (.int .u32 (mxI n)) ∧ w = w' := by
 have e : (IntKind.u64.wrap (IntKind.u64.wrap (2 ^ n.toNat) - 1) % 4294967296) = mxI n := by
  have := powI_bd n h2
  rw [wrapI_u64 (2 ^ n.toNat) (by omega) (by omega), wrapI_u64 _ (by omega) (by omega)]; unfold mxI; omega
 have E := Lib.hid e; clear e
 go_enter Tryz.func61, Tryz.ntmps61
 go_wp2
 go_ret
 exact ⟨by rw [← E.out]; rfl, rfl⟩
theorem Mask_any (n : Int) (w : World) : Calls Tryz.prog 34 #[.int .i64 n] w fun e w' => e = .returned (.tuple #[.int .u32 (if isNum n then mxI n else 0), .int .i64 (if isNum n then 0 else 1)]) ∧ w = w' := by
 cases h : isNum n
 ·have HW := Lib.hid (bWidth_any n)
  rw [h] at HW
  simp only [Bool.false_eq_true, if_false]
  go_enter Tryz.func34, Tryz.ntmps34
  go_wp2_with (go_at_call 60; refine (HW.out _).mono ?_; rintro e w' ⟨rfl, rfl⟩)
  go_ret2
  exact ⟨rfl, rfl⟩
 ·have h1 := isNum_iff.1 h
  have HW := Lib.hid (bWidth_any n)
  rw [h] at HW
  have HM := Lib.hid (fun w => bmask_any n w h1.1 h1.2)
  simp only [if_true]
  clear h h1
  generalize mxI n = m at *
  go_enter Tryz.func34, Tryz.ntmps34
  go_wp2_with (first | (go_at_call 60; refine (HW.out _).mono ?_; rintro e w' ⟨rfl, rfl⟩) | (go_at_call 61; refine (HM.out _).mono ?_; rintro e w' ⟨rfl, rfl⟩))
  go_ret2
  exact ⟨rfl, rfl⟩
end Go.Proofs.YtbbbflnnbbaamaaGreatDoor.PK
namespace Go.Proofs.YtbbbflnnbbaamaaGreatDoor.PK
open Go.RowKit

theorem isWordOf_any (n : Int) (m : Nat) (w : World) (hm : m < 4294967296) : Calls Tryz.prog 132 #[.int .i64 n, .int .u32 m] w fun e w' => e = .returned (.bool (isNum n && decide (m < 2 ^ n.toNat))) ∧ w' = w := by
 have HW := Lib.hid (risWidth_any n)
 have hm2 : (m : Int) < 4294967296 := by omega
 cases h : isNum n
 ·rw [h] at HW
  rw [Bool.false_and]
  go_enter Tryz.func132, Tryz.ntmps132
  go_wp2_with fail
  refine (HW.out _).mono ?_; rintro e w2 ⟨rfl, rfl⟩
  go_wp2_with fail
  go_ret
  exact ⟨rfl, rfl⟩
 ·have h1 := isNum_iff.1 h
  rw [h] at HW
  rw [Bool.true_and]
  have hpw := powI_bd n h1.2
  have HE : Hid (decide ((m : Int) < 2 ^ n.toNat) = decide (m < 2 ^ n.toNat)) := Lib.hid (by
   rw [decide_eq_decide]
   have e : ((2 ^ n.toNat : Nat) : Int) = (2 : Int) ^ n.toNat := by simp
   omega)
  have hn0 : 0 ≤ n := by omega
  have hn1 : n < 4294967296 := by omega
  obtain ⟨hn2, hn3⟩ := h1
  clear h
  rw [← HE.out]
  go_enter Tryz.func132, Tryz.ntmps132
  go_wp2_with fail
  refine (HW.out _).mono ?_; rintro e w2 ⟨rfl, rfl⟩
  go_wp2_with fail
  go_ret
  exact ⟨rfl, rfl⟩
def plnB (x : Ins) : Bool := decide (x.fl = 0) && decide (x.im = 0)
theorem plain_any (x : Ins) (aa ta : Option Addr) (ca ct : Nat) (w : World) : Calls Tryz.prog 133 #[insV x aa ta ca ct] w fun e w' => e = .returned (.bool (plnB x)) ∧ Below w.heap.size w w' := by
 obtain ⟨op, wd, fl, ar, im, tt⟩ := x
 have hb : Below w.heap.size w (w.alloc (.cells #[.int .i64 op, .int .i64 wd, .int .i64 fl, .slice aa ar.length ca, .int .u32 im, .slice ta tt.length ct] 63)) := (Below.refl _ _).alloc (Nat.le_refl _) _
 have HB := Lib.hid hb
 clear hb
 simp only [insV]
 unfold plnB
 by_cases h1 : fl = 0
 ·subst h1
  by_cases h2 : im = 0
  ·subst h2
   go_enter Tryz.func133, Tryz.ntmps133
   go_wp2_with fail
   go_ret
   exact ⟨rfl, HB.out⟩
  ·have e2 : ((im : Int) == 0) = false := by simp; omega
   have e3 : decide (im = 0) = false := decide_eq_false h2
   rw [e3]
   clear h2 e3
   go_enter Tryz.func133, Tryz.ntmps133
   go_wp2_with fail
   go_ret
   exact ⟨rfl, HB.out⟩
 ·have e1 : (fl == 0) = false := by simp [h1]
  have e3 : decide (fl = 0) = false := decide_eq_false h1
  simp only [e3, Bool.false_and]
  clear h1 e3
  go_enter Tryz.func133, Tryz.ntmps133
  go_wp2_with fail
  go_ret
  exact ⟨rfl, HB.out⟩
set_option maxRecDepth 100000 in
set_option maxHeartbeats 4000000 in
theorem arith_any (x : Ins) (aa ta : Option Addr) (ca ct : Nat) (w : World) (ho : 1 ≤ x.op ∧ x.op ≤ 13) : Calls Tryz.prog 134 #[insV x aa ta ca ct] w fun e w' => e = .returned (.bool (flOk x.op x.fl)) ∧ Below w.heap.size w w' := by
 obtain ⟨op, wd, fl, ar, im, tt⟩ := x
 have hb : Below w.heap.size w (w.alloc (.cells #[.int .i64 op, .int .i64 wd, .int .i64 fl, .slice aa ar.length ca, .int .u32 im, .slice ta tt.length ct] 63)) := (Below.refl _ _).alloc (Nat.le_refl _) _
 have HB := Lib.hid hb
 clear hb
 simp only [insV] at ho ⊢
 have hcs : op = 1 ∨ op = 2 ∨ op = 3 ∨ op = 4 ∨ op = 5 ∨ op = 6 ∨ op = 7 ∨ op = 8 ∨ op = 9 ∨ op = 10 ∨ op = 11 ∨ op = 12 ∨ op = 13 := by omega
 clear ho
 rcases hcs with rfl | rfl | rfl | rfl | rfl | rfl | rfl | rfl | rfl | rfl | rfl | rfl | rfl
 ·by_cases h1 : 0 ≤ fl
  ·by_cases h2 : fl ≤ 3
   ·skip
    have e : flOk 1 fl = true := by unfold flOk flgI; simp; omega
    rw [e]
    clear e
    go_enter Tryz.func134, Tryz.ntmps134
    go_wp2_with fail
    go_ret
    exact ⟨rfl, HB.out⟩
   ·skip
    have e : flOk 1 fl = false := by unfold flOk flgI; simp; omega
    rw [e]
    clear e
    go_enter Tryz.func134, Tryz.ntmps134
    go_wp2_with fail
    go_ret
    exact ⟨rfl, HB.out⟩
  ·skip
   have e : flOk 1 fl = false := by unfold flOk flgI; simp; omega
   rw [e]
   clear e
   go_enter Tryz.func134, Tryz.ntmps134
   go_wp2_with fail
   go_ret
   exact ⟨rfl, HB.out⟩
 ·by_cases h1 : 0 ≤ fl
  ·by_cases h2 : fl ≤ 3
   ·skip
    have e : flOk 2 fl = true := by unfold flOk flgI; simp; omega
    rw [e]
    clear e
    go_enter Tryz.func134, Tryz.ntmps134
    go_wp2_with fail
    go_ret
    exact ⟨rfl, HB.out⟩
   ·skip
    have e : flOk 2 fl = false := by unfold flOk flgI; simp; omega
    rw [e]
    clear e
    go_enter Tryz.func134, Tryz.ntmps134
    go_wp2_with fail
    go_ret
    exact ⟨rfl, HB.out⟩
  ·skip
   have e : flOk 2 fl = false := by unfold flOk flgI; simp; omega
   rw [e]
   clear e
   go_enter Tryz.func134, Tryz.ntmps134
   go_wp2_with fail
   go_ret
   exact ⟨rfl, HB.out⟩
 ·by_cases h1 : 0 ≤ fl
  ·by_cases h2 : fl ≤ 3
   ·skip
    have e : flOk 3 fl = true := by unfold flOk flgI; simp; omega
    rw [e]
    clear e
    go_enter Tryz.func134, Tryz.ntmps134
    go_wp2_with fail
    go_ret
    exact ⟨rfl, HB.out⟩
   ·skip
    have e : flOk 3 fl = false := by unfold flOk flgI; simp; omega
    rw [e]
    clear e
    go_enter Tryz.func134, Tryz.ntmps134
    go_wp2_with fail
    go_ret
    exact ⟨rfl, HB.out⟩
  ·skip
   have e : flOk 3 fl = false := by unfold flOk flgI; simp; omega
   rw [e]
   clear e
   go_enter Tryz.func134, Tryz.ntmps134
   go_wp2_with fail
   go_ret
   exact ⟨rfl, HB.out⟩
 ·by_cases h1 : fl = 0
  ·have b1 : (fl == 0) = true := by simp [h1]
   have e : flOk 4 fl = true := by unfold flOk flgI; simp; omega
   rw [e]
   clear e h1
   go_enter Tryz.func134, Tryz.ntmps134
   go_wp2_with fail
   go_ret
   exact ⟨rfl, HB.out⟩
  by_cases h2 : fl = 4
  ·have b1 : (fl == 0) = false := by simp [h1]
   have b2 : (fl == 4) = true := by simp [h2]
   have e : flOk 4 fl = true := by unfold flOk flgI; simp; omega
   rw [e]
   clear e h1 h2
   go_enter Tryz.func134, Tryz.ntmps134
   go_wp2_with fail
   go_ret
   exact ⟨rfl, HB.out⟩
  ·have b1 : (fl == 0) = false := by simp [h1]
   have b2 : (fl == 4) = false := by simp [h2]
   have e : flOk 4 fl = false := by unfold flOk flgI; simp; omega
   rw [e]
   clear e h1 h2
   go_enter Tryz.func134, Tryz.ntmps134
   go_wp2_with fail
   go_ret
   exact ⟨rfl, HB.out⟩
 ·by_cases h1 : fl = 0
  ·have b1 : (fl == 0) = true := by simp [h1]
   have e : flOk 5 fl = true := by unfold flOk flgI; simp; omega
   rw [e]
   clear e h1
   go_enter Tryz.func134, Tryz.ntmps134
   go_wp2_with fail
   go_ret
   exact ⟨rfl, HB.out⟩
  ·have b1 : (fl == 0) = false := by simp [h1]
   have e : flOk 5 fl = false := by unfold flOk flgI; simp; omega
   rw [e]
   clear e h1
   go_enter Tryz.func134, Tryz.ntmps134
   go_wp2_with fail
   go_ret
   exact ⟨rfl, HB.out⟩
 ·by_cases h1 : fl = 0
  ·have b1 : (fl == 0) = true := by simp [h1]
   have e : flOk 6 fl = true := by unfold flOk flgI; simp; omega
   rw [e]
   clear e h1
   go_enter Tryz.func134, Tryz.ntmps134
   go_wp2_with fail
   go_ret
   exact ⟨rfl, HB.out⟩
  by_cases h2 : fl = 4
  ·have b1 : (fl == 0) = false := by simp [h1]
   have b2 : (fl == 4) = true := by simp [h2]
   have e : flOk 6 fl = true := by unfold flOk flgI; simp; omega
   rw [e]
   clear e h1 h2
   go_enter Tryz.func134, Tryz.ntmps134
   go_wp2_with fail
   go_ret
   exact ⟨rfl, HB.out⟩
  ·have b1 : (fl == 0) = false := by simp [h1]
   have b2 : (fl == 4) = false := by simp [h2]
   have e : flOk 6 fl = false := by unfold flOk flgI; simp; omega
   rw [e]
   clear e h1 h2
   go_enter Tryz.func134, Tryz.ntmps134
   go_wp2_with fail
   go_ret
   exact ⟨rfl, HB.out⟩
 ·by_cases h1 : fl = 0
  ·have b1 : (fl == 0) = true := by simp [h1]
   have e : flOk 7 fl = true := by unfold flOk flgI; simp; omega
   rw [e]
   clear e h1
   go_enter Tryz.func134, Tryz.ntmps134
   go_wp2_with fail
   go_ret
   exact ⟨rfl, HB.out⟩
  ·have b1 : (fl == 0) = false := by simp [h1]
   have e : flOk 7 fl = false := by unfold flOk flgI; simp; omega
   rw [e]
   clear e h1
   go_enter Tryz.func134, Tryz.ntmps134
   go_wp2_with fail
   go_ret
   exact ⟨rfl, HB.out⟩
 ·by_cases h1 : fl = 0
  ·have b1 : (fl == 0) = true := by simp [h1]
   have e : flOk 8 fl = true := by unfold flOk flgI; simp; omega
   rw [e]
   clear e h1
   go_enter Tryz.func134, Tryz.ntmps134
   go_wp2_with fail
   go_ret
   exact ⟨rfl, HB.out⟩
  ·have b1 : (fl == 0) = false := by simp [h1]
   have e : flOk 8 fl = false := by unfold flOk flgI; simp; omega
   rw [e]
   clear e h1
   go_enter Tryz.func134, Tryz.ntmps134
   go_wp2_with fail
   go_ret
   exact ⟨rfl, HB.out⟩
 ·by_cases h1 : fl = 0
  ·have b1 : (fl == 0) = true := by simp [h1]
   have e : flOk 9 fl = true := by unfold flOk flgI; simp; omega
   rw [e]
   clear e h1
   go_enter Tryz.func134, Tryz.ntmps134
   go_wp2_with fail
   go_ret
   exact ⟨rfl, HB.out⟩
  ·have b1 : (fl == 0) = false := by simp [h1]
   have e : flOk 9 fl = false := by unfold flOk flgI; simp; omega
   rw [e]
   clear e h1
   go_enter Tryz.func134, Tryz.ntmps134
   go_wp2_with fail
   go_ret
   exact ⟨rfl, HB.out⟩
 ·by_cases h1 : fl = 0
  ·have b1 : (fl == 0) = true := by simp [h1]
   have e : flOk 10 fl = true := by unfold flOk flgI; simp; omega
   rw [e]
   clear e h1
   go_enter Tryz.func134, Tryz.ntmps134
   go_wp2_with fail
   go_ret
   exact ⟨rfl, HB.out⟩
  ·have b1 : (fl == 0) = false := by simp [h1]
   have e : flOk 10 fl = false := by unfold flOk flgI; simp; omega
   rw [e]
   clear e h1
   go_enter Tryz.func134, Tryz.ntmps134
   go_wp2_with fail
   go_ret
   exact ⟨rfl, HB.out⟩
 ·by_cases h1 : 0 ≤ fl
  ·by_cases h2 : fl ≤ 3
   ·skip
    have e : flOk 11 fl = true := by unfold flOk flgI; simp; omega
    rw [e]
    clear e
    go_enter Tryz.func134, Tryz.ntmps134
    go_wp2_with fail
    go_ret
    exact ⟨rfl, HB.out⟩
   ·skip
    have e : flOk 11 fl = false := by unfold flOk flgI; simp; omega
    rw [e]
    clear e
    go_enter Tryz.func134, Tryz.ntmps134
    go_wp2_with fail
    go_ret
    exact ⟨rfl, HB.out⟩
  ·skip
   have e : flOk 11 fl = false := by unfold flOk flgI; simp; omega
   rw [e]
   clear e
   go_enter Tryz.func134, Tryz.ntmps134
   go_wp2_with fail
   go_ret
   exact ⟨rfl, HB.out⟩
 ·by_cases h1 : fl = 0
  ·have b1 : (fl == 0) = true := by simp [h1]
   have e : flOk 12 fl = true := by unfold flOk flgI; simp; omega
   rw [e]
   clear e h1
   go_enter Tryz.func134, Tryz.ntmps134
   go_wp2_with fail
   go_ret
   exact ⟨rfl, HB.out⟩
  by_cases h2 : fl = 4
  ·have b1 : (fl == 0) = false := by simp [h1]
   have b2 : (fl == 4) = true := by simp [h2]
   have e : flOk 12 fl = true := by unfold flOk flgI; simp; omega
   rw [e]
   clear e h1 h2
   go_enter Tryz.func134, Tryz.ntmps134
   go_wp2_with fail
   go_ret
   exact ⟨rfl, HB.out⟩
  ·have b1 : (fl == 0) = false := by simp [h1]
   have b2 : (fl == 4) = false := by simp [h2]
   have e : flOk 12 fl = false := by unfold flOk flgI; simp; omega
   rw [e]
   clear e h1 h2
   go_enter Tryz.func134, Tryz.ntmps134
   go_wp2_with fail
   go_ret
   exact ⟨rfl, HB.out⟩
 ·by_cases h1 : fl = 0
  ·have b1 : (fl == 0) = true := by simp [h1]
   have e : flOk 13 fl = true := by unfold flOk flgI; simp; omega
   rw [e]
   clear e h1
   go_enter Tryz.func134, Tryz.ntmps134
   go_wp2_with fail
   go_ret
   exact ⟨rfl, HB.out⟩
  by_cases h2 : fl = 4
  ·have b1 : (fl == 0) = false := by simp [h1]
   have b2 : (fl == 4) = true := by simp [h2]
   have e : flOk 13 fl = true := by unfold flOk flgI; simp; omega
   rw [e]
   clear e h1 h2
   go_enter Tryz.func134, Tryz.ntmps134
   go_wp2_with fail
   go_ret
   exact ⟨rfl, HB.out⟩
  ·have b1 : (fl == 0) = false := by simp [h1]
   have b2 : (fl == 4) = false := by simp [h2]
   have e : flOk 13 fl = false := by unfold flOk flgI; simp; omega
   rw [e]
   clear e h1 h2
   go_enter Tryz.func134, Tryz.ntmps134
   go_wp2_with fail
   go_ret
   exact ⟨rfl, HB.out⟩
end Go.Proofs.YtbbbflnnbbaamaaGreatDoor.PK
