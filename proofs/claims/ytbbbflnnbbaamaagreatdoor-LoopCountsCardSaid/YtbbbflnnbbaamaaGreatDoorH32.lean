/- Packed of several texts. -/
import Derived.Test.YtbbbflnnbbaamaaGreatDoorH31
namespace Go.Proofs.YtbbbflnnbbaamaaGreatDoor.PK
open Go.RowKit

def argC (c ret : Int) (ntt : Nat) : Int :=
 if c = 2 ∨ c = 3 ∨ c = 7 ∨ c = 11 ∨ c = 13 then 2 else if c = 4 then 3 else if c = 5 ∨ c = 6 ∨ c = 8 ∨ c = 12 ∨ c = 16 then 1
 else if c = 14 then ntt else if c = 17 then min ret 1 else 0
theorem argC_is (ret : Int) (x : Ins) : argsI ret x = argC (clsI x.op) ret x.tt.length := rfl
set_option maxRecDepth 100000 in
set_option maxHeartbeats 2000000 in
theorem typed_any (F : Fun) (A : FunA) (x : Ins) (aa ta : Option Addr) (ca ct : Nat) (K : List Int) (ka : Option Addr) (kc : Nat) (w : World) (hia : IntsIn w aa x.ar) (hik : IntsIn w ka K) (har : x.ar.length ≤ 40) (hsh : (x.ar.length : Int) = argsI F.ret x) :
  Calls Tryz.prog 70 #[funV F A, insV x aa ta ca ct, .slice ka K.length kc] w fun e w' => e = .returned (.bool (ityB (clsI x.op) x.wd F.ret (ksI K x))) ∧ Below w.heap.size w w' := by
 have hal : Below w.heap.size w ((((w.alloc (.cells #[.slice A.pa F.ps.length A.pc, .int .i64 F.ret, .slice A.sa F.sl.length A.sc, .slice A.ba F.bs.length A.bc] 31)).alloc (.cells #[.int .i64 x.op, .int .i64 x.wd, .int .i64 x.fl, .slice aa x.ar.length ca, .int .u32 x.im, .slice ta x.tt.length ct] 63)).alloc (.cells #[.slice ka K.length kc] 28)).alloc (.cells #[.func (.func 110) #[] #[.pointer (some ⟨w.heap.size + 1, 0, none⟩), .pointer (some ⟨w.heap.size + 1 + 1, 0, none⟩)]] 132)) := ((((Below.refl _ _).alloc (Nat.le_refl _) _).alloc (by simp) _).alloc (by simp; omega) _).alloc (by simp; omega) _
 have hr3 : ((((w.alloc (.cells #[.slice A.pa F.ps.length A.pc, .int .i64 F.ret, .slice A.sa F.sl.length A.sc, .slice A.ba F.bs.length A.bc] 31)).alloc (.cells #[.int .i64 x.op, .int .i64 x.wd, .int .i64 x.fl, .slice aa x.ar.length ca, .int .u32 x.im, .slice ta x.tt.length ct] 63)).alloc (.cells #[.slice ka K.length kc] 28)).alloc (.cells #[.func (.func 110) #[] #[.pointer (some ⟨w.heap.size + 1, 0, none⟩), .pointer (some ⟨w.heap.size + 1 + 1, 0, none⟩)]] 132)).heap[w.heap.size + 1 + 1 + 1]? = some ((.cells #[.func (.func 110) #[] #[.pointer (some ⟨w.heap.size + 1, 0, none⟩), .pointer (some ⟨w.heap.size + 1 + 1, 0, none⟩)]] 132) : Obj) := by
  have := heap_alloc_new ((((w.alloc (.cells #[.slice A.pa F.ps.length A.pc, .int .i64 F.ret, .slice A.sa F.sl.length A.sc, .slice A.ba F.bs.length A.bc] 31)).alloc (.cells #[.int .i64 x.op, .int .i64 x.wd, .int .i64 x.fl, .slice aa x.ar.length ca, .int .u32 x.im, .slice ta x.tt.length ct] 63)).alloc (.cells #[.slice ka K.length kc] 28))) (.cells #[.func (.func 110) #[] #[.pointer (some ⟨w.heap.size + 1, 0, none⟩), .pointer (some ⟨w.heap.size + 1 + 1, 0, none⟩)]] 132)
  simpa using this
 have hr2 : ((((w.alloc (.cells #[.slice A.pa F.ps.length A.pc, .int .i64 F.ret, .slice A.sa F.sl.length A.sc, .slice A.ba F.bs.length A.bc] 31)).alloc (.cells #[.int .i64 x.op, .int .i64 x.wd, .int .i64 x.fl, .slice aa x.ar.length ca, .int .u32 x.im, .slice ta x.tt.length ct] 63)).alloc (.cells #[.slice ka K.length kc] 28)).alloc (.cells #[.func (.func 110) #[] #[.pointer (some ⟨w.heap.size + 1, 0, none⟩), .pointer (some ⟨w.heap.size + 1 + 1, 0, none⟩)]] 132)).heap[w.heap.size + 1 + 1]? = some ((.cells #[.slice ka K.length kc] 28) : Obj) := by
  rw [Below.heap_alloc _ _ _ (by simp)]
  have := heap_alloc_new (((w.alloc (.cells #[.slice A.pa F.ps.length A.pc, .int .i64 F.ret, .slice A.sa F.sl.length A.sc, .slice A.ba F.bs.length A.bc] 31)).alloc (.cells #[.int .i64 x.op, .int .i64 x.wd, .int .i64 x.fl, .slice aa x.ar.length ca, .int .u32 x.im, .slice ta x.tt.length ct] 63))) (.cells #[.slice ka K.length kc] 28)
  simpa using this
 have hr1 : ((((w.alloc (.cells #[.slice A.pa F.ps.length A.pc, .int .i64 F.ret, .slice A.sa F.sl.length A.sc, .slice A.ba F.bs.length A.bc] 31)).alloc (.cells #[.int .i64 x.op, .int .i64 x.wd, .int .i64 x.fl, .slice aa x.ar.length ca, .int .u32 x.im, .slice ta x.tt.length ct] 63)).alloc (.cells #[.slice ka K.length kc] 28)).alloc (.cells #[.func (.func 110) #[] #[.pointer (some ⟨w.heap.size + 1, 0, none⟩), .pointer (some ⟨w.heap.size + 1 + 1, 0, none⟩)]] 132)).heap[w.heap.size + 1]? = some ((.cells #[.int .i64 x.op, .int .i64 x.wd, .int .i64 x.fl, .slice aa x.ar.length ca, .int .u32 x.im, .slice ta x.tt.length ct] 63) : Obj) := by
  rw [Below.heap_alloc _ _ _ (by simp), Below.heap_alloc _ _ _ (by simp)]
  have := heap_alloc_new (w.alloc (.cells #[.slice A.pa F.ps.length A.pc, .int .i64 F.ret, .slice A.sa F.sl.length A.sc, .slice A.ba F.bs.length A.bc] 31)) (.cells #[.int .i64 x.op, .int .i64 x.wd, .int .i64 x.fl, .slice aa x.ar.length ca, .int .u32 x.im, .slice ta x.tt.length ct] 63)
  simpa using this
 have hr0 : ((((w.alloc (.cells #[.slice A.pa F.ps.length A.pc, .int .i64 F.ret, .slice A.sa F.sl.length A.sc, .slice A.ba F.bs.length A.bc] 31)).alloc (.cells #[.int .i64 x.op, .int .i64 x.wd, .int .i64 x.fl, .slice aa x.ar.length ca, .int .u32 x.im, .slice ta x.tt.length ct] 63)).alloc (.cells #[.slice ka K.length kc] 28)).alloc (.cells #[.func (.func 110) #[] #[.pointer (some ⟨w.heap.size + 1, 0, none⟩), .pointer (some ⟨w.heap.size + 1 + 1, 0, none⟩)]] 132)).heap[w.heap.size]? = some ((.cells #[.slice A.pa F.ps.length A.pc, .int .i64 F.ret, .slice A.sa F.sl.length A.sc, .slice A.ba F.bs.length A.bc] 31) : Obj) := by
  rw [Below.heap_alloc _ _ _ (by simp; omega), Below.heap_alloc _ _ _ (by simp; omega), Below.heap_alloc _ _ _ (by simp)]
  exact heap_alloc_new _ _
 have g1 := cell_of_row _ _ 1 _ _ _ hr0
 have x0 := cell_of_row _ _ 0 _ _ _ hr1; have x1 := cell_of_row _ _ 1 _ _ _ hr1; have x3 := cell_of_row _ _ 3 _ _ _ hr1
 have k0 := cell_of_row _ _ 0 _ _ _ hr2
 have f0 := cell_of_row _ _ 0 _ _ _ hr3
 simp only [List.getElem?_toArray, List.getElem?_cons_zero, List.getElem?_cons_succ] at g1 x0 x1 x3 k0 f0
 have HT : Hid (TyC ((((w.alloc (.cells #[.slice A.pa F.ps.length A.pc, .int .i64 F.ret, .slice A.sa F.sl.length A.sc, .slice A.ba F.bs.length A.bc] 31)).alloc (.cells #[.int .i64 x.op, .int .i64 x.wd, .int .i64 x.fl, .slice aa x.ar.length ca, .int .u32 x.im, .slice ta x.tt.length ct] 63)).alloc (.cells #[.slice ka K.length kc] 28)).alloc (.cells #[.func (.func 110) #[] #[.pointer (some ⟨w.heap.size + 1, 0, none⟩), .pointer (some ⟨w.heap.size + 1 + 1, 0, none⟩)]] 132)) (w.heap.size + 1) (w.heap.size + 1 + 1) x.ar K) := Lib.hid ⟨⟨_, _, x3, hia.below hal⟩, ⟨_, _, k0, hik.below hal⟩⟩
 have HB := Lib.hid hal
 have HO := Lib.hid (fun i (hi : i < x.ar.length) u (hb : Below ((((w.alloc (.cells #[.slice A.pa F.ps.length A.pc, .int .i64 F.ret, .slice A.sa F.sl.length A.sc, .slice A.ba F.bs.length A.bc] 31)).alloc (.cells #[.int .i64 x.op, .int .i64 x.wd, .int .i64 x.fl, .slice aa x.ar.length ca, .int .u32 x.im, .slice ta x.tt.length ct] 63)).alloc (.cells #[.slice ka K.length kc] 28)).alloc (.cells #[.func (.func 110) #[] #[.pointer (some ⟨w.heap.size + 1, 0, none⟩), .pointer (some ⟨w.heap.size + 1 + 1, 0, none⟩)]] 132)).heap.size ((((w.alloc (.cells #[.slice A.pa F.ps.length A.pc, .int .i64 F.ret, .slice A.sa F.sl.length A.sc, .slice A.ba F.bs.length A.bc] 31)).alloc (.cells #[.int .i64 x.op, .int .i64 x.wd, .int .i64 x.fl, .slice aa x.ar.length ca, .int .u32 x.im, .slice ta x.tt.length ct] 63)).alloc (.cells #[.slice ka K.length kc] 28)).alloc (.cells #[.func (.func 110) #[] #[.pointer (some ⟨w.heap.size + 1, 0, none⟩), .pointer (some ⟨w.heap.size + 1 + 1, 0, none⟩)]] 132)) u) => (typed1_any x.ar K (w.heap.size + 1) (w.heap.size + 1 + 1) i u (HT.out.below hb) hi).mono fun e w' h => And.intro h.1 h.2.symm)
 have HEa := Lib.hid (fun k u (hb : Below ((((w.alloc (.cells #[.slice A.pa F.ps.length A.pc, .int .i64 F.ret, .slice A.sa F.sl.length A.sc, .slice A.ba F.bs.length A.bc] 31)).alloc (.cells #[.int .i64 x.op, .int .i64 x.wd, .int .i64 x.fl, .slice aa x.ar.length ca, .int .u32 x.im, .slice ta x.tt.length ct] 63)).alloc (.cells #[.slice ka K.length kc] 28)).alloc (.cells #[.func (.func 110) #[] #[.pointer (some ⟨w.heap.size + 1, 0, none⟩), .pointer (some ⟨w.heap.size + 1 + 1, 0, none⟩)]] 132)).heap.size ((((w.alloc (.cells #[.slice A.pa F.ps.length A.pc, .int .i64 F.ret, .slice A.sa F.sl.length A.sc, .slice A.ba F.bs.length A.bc] 31)).alloc (.cells #[.int .i64 x.op, .int .i64 x.wd, .int .i64 x.fl, .slice aa x.ar.length ca, .int .u32 x.im, .slice ta x.tt.length ct] 63)).alloc (.cells #[.slice ka K.length kc] 28)).alloc (.cells #[.func (.func 110) #[] #[.pointer (some ⟨w.heap.size + 1, 0, none⟩), .pointer (some ⟨w.heap.size + 1 + 1, 0, none⟩)]] 132)) u) => (typed2_any x.ar K (w.heap.size + 1) (w.heap.size + 1 + 1) (w.heap.size + 1 + 1 + 1) k u (HT.out.below hb) (keep f0 hb) (by omega)).mono fun e w' h => And.intro h.1 h.2.symm)
 have HCl := Lib.hid (fun u => classOf_any x.op u)
 have HNu := Lib.hid (fun k u => isNumber_any k u)
 have HNv := Lib.hid (fun k u => (isNumber_any k u).mono fun e w' h => And.intro h.1 h.2.symm)
 have HMm := Lib.hid (fun k u => isMemory_any k u)
 have HSh := Lib.hid (hsh.trans (argC_is F.ret x))
 obtain ⟨zf, hzf⟩ : ∃ zf : Int → Int, ∀ v, zf v = ofI K (x.ar.getD v.toNat 0) := ⟨_, fun _ => rfl⟩
 have HZf : Hid (∀ k : Nat, k < x.ar.length → (ksI K x).getD k 0 = zf k) := Lib.hid fun k h => by rw [ksI_get h, hzf, Int.toNat_natCast]
 have HOf : Hid (∀ (v : Int) u, 0 ≤ v → v < (x.ar.length : Int) → Below ((((w.alloc (.cells #[.slice A.pa F.ps.length A.pc, .int .i64 F.ret, .slice A.sa F.sl.length A.sc, .slice A.ba F.bs.length A.bc] 31)).alloc (.cells #[.int .i64 x.op, .int .i64 x.wd, .int .i64 x.fl, .slice aa x.ar.length ca, .int .u32 x.im, .slice ta x.tt.length ct] 63)).alloc (.cells #[.slice ka K.length kc] 28)).alloc (.cells #[.func (.func 110) #[] #[.pointer (some ⟨w.heap.size + 1, 0, none⟩), .pointer (some ⟨w.heap.size + 1 + 1, 0, none⟩)]] 132)).heap.size ((((w.alloc (.cells #[.slice A.pa F.ps.length A.pc, .int .i64 F.ret, .slice A.sa F.sl.length A.sc, .slice A.ba F.bs.length A.bc] 31)).alloc (.cells #[.int .i64 x.op, .int .i64 x.wd, .int .i64 x.fl, .slice aa x.ar.length ca, .int .u32 x.im, .slice ta x.tt.length ct] 63)).alloc (.cells #[.slice ka K.length kc] 28)).alloc (.cells #[.func (.func 110) #[] #[.pointer (some ⟨w.heap.size + 1, 0, none⟩), .pointer (some ⟨w.heap.size + 1 + 1, 0, none⟩)]] 132)) u → Calls Tryz.prog 110 #[.int .i64 v, .pointer (some ⟨w.heap.size + 1, 0, none⟩), .pointer (some ⟨w.heap.size + 1 + 1, 0, none⟩)] u fun e w' => e = .returned (.int .i64 (zf v)) ∧ w' = u) := Lib.hid fun v u h0 h1 hb => by
  obtain ⟨i, rfl⟩ : ∃ i : Nat, v = (i : Int) := ⟨v.toNat, by omega⟩
  rw [hzf, Int.toNat_natCast]
  exact HO.out i (by omega) u hb
 clear HO hzf
 have hks : x.ar.map (ofI K) = ksI K x := rfl
 rw [hks] at HEa
 generalize ksI K x = ks at *
 obtain ⟨R, hR⟩ : ∃ R, ityB (clsI x.op) x.wd F.ret ks = R := ⟨_, rfl⟩
 rw [hR]
 have HRe : Hid (ityB (clsI x.op) x.wd F.ret ks = R) := Lib.hid hR
 have HG1 := Lib.hid g1; have HX1 := Lib.hid x1
 clear hal hr0 hr1 hr2 hr3 hia hik hsh hks hR HT
 generalize hcc : clsI x.op = c at *
 clear hcc
 simp only [funV, funC, insV]
 generalize hna : x.ar.length = k at *
 clear hna
 go_enter Tryz.func70, Tryz.ntmps70
 go_upto_region 3 with fail
 generalize ((((w.alloc (.cells #[.slice A.pa F.ps.length A.pc, .int .i64 F.ret, .slice A.sa F.sl.length A.sc, .slice A.ba F.bs.length A.bc] 31)).alloc (.cells #[.int .i64 x.op, .int .i64 x.wd, .int .i64 x.fl, .slice aa x.ar.length ca, .int .u32 x.im, .slice ta x.tt.length ct] 63)).alloc (.cells #[.slice ka K.length kc] 28)).alloc (.cells #[.func (.func 110) #[] #[.pointer (some ⟨w.heap.size + 1, 0, none⟩), .pointer (some ⟨w.heap.size + 1 + 1, 0, none⟩)]] 132)) = w1 at *
 go_wp2_with fail
 refine (HCl.out _).mono ?_; rintro e w5 ⟨rfl, rfl⟩
 go_upto_region 4 with fail
 by_cases o2 : c = 2
 ·subst o2
  have HE : Hid (R = (ks.all fun z => decide (z = x.wd))) := Lib.hid (HRe.out.symm.trans (by unfold ityB; simp))
  have HC := Lib.hid (HEa.out x.wd)
  rw [← HE.out] at HC
  go_wp2_with fail
  refine (HC.out _ (Below.refl _ _)).mono ?_; rintro e w5 ⟨rfl, rfl⟩
  go_wp2_with fail
  go_ret
  exact ⟨rfl, by first | exact HB.out | exact below_drewN HB.out _⟩
 have t2 : (c == 2) = false := by simp [o2]
 go_upto_region 5 with fail
 clear t2
 by_cases o7 : c = 7
 ·subst o7
  have HE : Hid (R = (ks.all fun z => decide (z = x.wd))) := Lib.hid (HRe.out.symm.trans (by unfold ityB; simp))
  have HC := Lib.hid (HEa.out x.wd)
  rw [← HE.out] at HC
  go_wp2_with fail
  refine (HC.out _ (Below.refl _ _)).mono ?_; rintro e w5 ⟨rfl, rfl⟩
  go_wp2_with fail
  go_ret
  exact ⟨rfl, by first | exact HB.out | exact below_drewN HB.out _⟩
 have t7 : (c == 7) = false := by simp [o7]
 go_upto_region 6 with fail
 clear t7
 by_cases o8 : c = 8
 ·subst o8
  have HE : Hid (R = (ks.all fun z => decide (z = x.wd))) := Lib.hid (HRe.out.symm.trans (by unfold ityB; simp))
  have HC := Lib.hid (HEa.out x.wd)
  rw [← HE.out] at HC
  go_wp2_with fail
  refine (HC.out _ (Below.refl _ _)).mono ?_; rintro e w5 ⟨rfl, rfl⟩
  go_wp2_with fail
  go_ret
  exact ⟨rfl, by first | exact HB.out | exact below_drewN HB.out _⟩
 have t8 : (c == 8) = false := by simp [o8]
 go_upto_region 7 with fail
 clear t8
 by_cases o14 : c = 14
 ·subst o14
  have HE : Hid (R = (ks.all fun z => decide (z = x.wd))) := Lib.hid (HRe.out.symm.trans (by unfold ityB; simp))
  have HC := Lib.hid (HEa.out x.wd)
  rw [← HE.out] at HC
  go_wp2_with fail
  refine (HC.out _ (Below.refl _ _)).mono ?_; rintro e w5 ⟨rfl, rfl⟩
  go_wp2_with fail
  go_ret
  exact ⟨rfl, by first | exact HB.out | exact below_drewN HB.out _⟩
 have t14 : (c == 14) = false := by simp [o14]
 go_upto_region 9 with fail
 clear t14
 by_cases o3 : c = 3
 ·subst o3
  obtain rfl : k = 2 := by have h := HSh.out; simp [argC] at h; omega
  have HE : Hid (R = (isNum ((zf 0)) && ks.all fun z => decide (z = (zf 0)))) := Lib.hid (HRe.out.symm.trans (by unfold ityB; rw [HZf.out 0 (by decide)]; rw [HZf.out 1 (by decide)]; simp))
  have HQ := Lib.hid (fun v h0 (h1 : v < (2 : Int)) u h => HOf.out v u h0 h1 h)
  have HW0 := Lib.hid (HNu.out (zf 0))
  have HC := Lib.hid (HEa.out (zf 0))
  generalize (ks.all fun z => decide (z = (zf 0))) = all at *
  generalize isNum (zf 0) = n0 at *
  cases n0
  ·obtain rfl : R = false := HE.out
   go_wp2_with fail
   refine (HQ.out 0 (by decide) (by decide) _ (Below.refl _ _)).mono ?_; rintro e w5 ⟨rfl, rfl⟩
   go_wp2_with fail
   refine (HW0.out _).mono ?_; rintro e w5 ⟨rfl, rfl⟩
   go_wp2_with fail
   go_ret
   exact ⟨rfl, by first | exact HB.out | exact below_drewN HB.out _⟩
  ·obtain rfl : R = all := HE.out
   go_wp2_with fail
   refine (HQ.out 0 (by decide) (by decide) _ (Below.refl _ _)).mono ?_; rintro e w5 ⟨rfl, rfl⟩
   go_wp2_with fail
   refine (HW0.out _).mono ?_; rintro e w5 ⟨rfl, rfl⟩
   go_wp2_with fail
   refine (HQ.out 0 (by decide) (by decide) _ (Below.refl _ _)).mono ?_; rintro e w5 ⟨rfl, rfl⟩
   go_wp2_with fail
   refine (HC.out _ (Below.refl _ _)).mono ?_; rintro e w5 ⟨rfl, rfl⟩
   go_wp2_with fail
   go_ret
   exact ⟨rfl, by first | exact HB.out | exact below_drewN HB.out _⟩
 have t3 : (c == 3) = false := by simp [o3]
 go_upto_region 11 with fail
 clear t3
 by_cases o4 : c = 4
 ·subst o4
  obtain rfl : k = 3 := by have h := HSh.out; simp [argC] at h; omega
  have HE : Hid (R = (decide ((zf 0) = 1) && (decide ((zf 1) = x.wd) && decide ((zf 2) = x.wd)))) := Lib.hid (HRe.out.symm.trans (by unfold ityB; rw [HZf.out 0 (by decide)]; rw [HZf.out 1 (by decide)]; rw [HZf.out 2 (by decide)]; simp))
  have HQ := Lib.hid (fun v h0 (h1 : v < (3 : Int)) u h => HOf.out v u h0 h1 h)
  generalize x.wd = wd at *
  go_upto_region 12 with fail
  by_cases h0 : (zf 0) = 1
  rotate_left
  ·have q0 : ((zf 0) == 1) = false := by simp [h0]
   obtain rfl : R = false := by rw [HE.out]; simp [h0]
   clear h0
   go_quiet (first | (go_at_call 110; exact Calls.quiet_of_same (HQ.out _ (by decide) (by decide) _ (below_drewN (Below.refl _ _) _))))
   go_wp2_with fail
   go_ret
   exact ⟨rfl, by first | exact HB.out | exact below_drewN HB.out _⟩
  have q0 : ((zf 0) == 1) = true := by simp [h0]
  by_cases h1 : (zf 1) = wd
  rotate_left
  ·have q1 : ((zf 1) == wd) = false := by simp [h1]
   obtain rfl : R = false := by rw [HE.out]; simp [h1]
   clear h0 h1
   go_quiet (first | (go_at_call 110; exact Calls.quiet_of_same (HQ.out _ (by decide) (by decide) _ (below_drewN (Below.refl _ _) _))))
   go_wp2_with fail
   go_ret
   exact ⟨rfl, by first | exact HB.out | exact below_drewN HB.out _⟩
  have q1 : ((zf 1) == wd) = true := by simp [h1]
  by_cases h2 : (zf 2) = wd
  rotate_left
  ·have q2 : ((zf 2) == wd) = false := by simp [h2]
   obtain rfl : R = false := by rw [HE.out]; simp [h2]
   clear h0 h1 h2
   go_quiet (first | (go_at_call 110; exact Calls.quiet_of_same (HQ.out _ (by decide) (by decide) _ (below_drewN (Below.refl _ _) _))))
   go_wp2_with fail
   go_ret
   exact ⟨rfl, by first | exact HB.out | exact below_drewN HB.out _⟩
  have q2 : ((zf 2) == wd) = true := by simp [h2]
  obtain rfl : R = true := by rw [HE.out]; simp [h0, h1, h2]
  clear h0 h1 h2
  go_quiet (first | (go_at_call 110; exact Calls.quiet_of_same (HQ.out _ (by decide) (by decide) _ (below_drewN (Below.refl _ _) _))))
  go_wp2_with fail
  go_ret
  exact ⟨rfl, by first | exact HB.out | exact below_drewN HB.out _⟩
 have t4 : (c == 4) = false := by simp [o4]
 go_upto_region 13 with fail
 clear t4
 by_cases o5 : c = 5
 ·subst o5
  obtain rfl : k = 1 := by have h := HSh.out; simp [argC] at h; omega
  have HE : Hid (R = (isNum ((zf 0)) && decide ((zf 0) < x.wd))) := Lib.hid (HRe.out.symm.trans (by unfold ityB; rw [HZf.out 0 (by decide)]; simp))
  have HQ := Lib.hid (fun v h0 (h1 : v < (1 : Int)) u h => HOf.out v u h0 h1 h)
  generalize x.wd = wd at *
  have HW0 := Lib.hid (fun u => HNv.out (zf 0) u)
  generalize isNum (zf 0) = n0 at *
  go_upto_region 14 with fail
  cases n0
  ·skip
   obtain rfl : R = false := by rw [HE.out]; simp []
   go_quiet (first | (go_at_call 110; exact Calls.quiet_of_same (HQ.out _ (by decide) (by decide) _ (below_drewN (Below.refl _ _) _))) | (go_at_call 100; exact Calls.quiet_of_same (HW0.out _)))
   go_wp2_with fail
   go_ret
   exact ⟨rfl, by first | exact HB.out | exact below_drewN HB.out _⟩
  ·by_cases hq : (zf 0) < wd
   ·have q : decide ((zf 0) < wd) = true := by simp [hq]
    obtain rfl : R = true := by rw [HE.out]; simp [hq]
    go_quiet (first | (go_at_call 110; exact Calls.quiet_of_same (HQ.out _ (by decide) (by decide) _ (below_drewN (Below.refl _ _) _))) | (go_at_call 100; exact Calls.quiet_of_same (HW0.out _)))
    go_wp2_with fail
    go_ret
    exact ⟨rfl, by first | exact HB.out | exact below_drewN HB.out _⟩
   ·have q : decide ((zf 0) < wd) = false := by simp [hq]
    obtain rfl : R = false := by rw [HE.out]; simp [hq]
    go_quiet (first | (go_at_call 110; exact Calls.quiet_of_same (HQ.out _ (by decide) (by decide) _ (below_drewN (Below.refl _ _) _))) | (go_at_call 100; exact Calls.quiet_of_same (HW0.out _)))
    go_wp2_with fail
    go_ret
    exact ⟨rfl, by first | exact HB.out | exact below_drewN HB.out _⟩
 have t5 : (c == 5) = false := by simp [o5]
 go_upto_region 15 with fail
 clear t5
 by_cases o6 : c = 6
 ·subst o6
  obtain rfl : k = 1 := by have h := HSh.out; simp [argC] at h; omega
  have HE : Hid (R = (isNum ((zf 0)) && decide (x.wd < (zf 0)))) := Lib.hid (HRe.out.symm.trans (by unfold ityB; rw [HZf.out 0 (by decide)]; simp))
  have HQ := Lib.hid (fun v h0 (h1 : v < (1 : Int)) u h => HOf.out v u h0 h1 h)
  generalize x.wd = wd at *
  have HW0 := Lib.hid (fun u => HNv.out (zf 0) u)
  generalize isNum (zf 0) = n0 at *
  go_upto_region 16 with fail
  cases n0
  ·skip
   obtain rfl : R = false := by rw [HE.out]; simp []
   go_quiet (first | (go_at_call 110; exact Calls.quiet_of_same (HQ.out _ (by decide) (by decide) _ (below_drewN (Below.refl _ _) _))) | (go_at_call 100; exact Calls.quiet_of_same (HW0.out _)))
   go_wp2_with fail
   go_ret
   exact ⟨rfl, by first | exact HB.out | exact below_drewN HB.out _⟩
  ·by_cases hq : wd < (zf 0)
   ·have q : decide (wd < (zf 0)) = true := by simp [hq]
    obtain rfl : R = true := by rw [HE.out]; simp [hq]
    go_quiet (first | (go_at_call 110; exact Calls.quiet_of_same (HQ.out _ (by decide) (by decide) _ (below_drewN (Below.refl _ _) _))) | (go_at_call 100; exact Calls.quiet_of_same (HW0.out _)))
    go_wp2_with fail
    go_ret
    exact ⟨rfl, by first | exact HB.out | exact below_drewN HB.out _⟩
   ·have q : decide (wd < (zf 0)) = false := by simp [hq]
    obtain rfl : R = false := by rw [HE.out]; simp [hq]
    go_quiet (first | (go_at_call 110; exact Calls.quiet_of_same (HQ.out _ (by decide) (by decide) _ (below_drewN (Below.refl _ _) _))) | (go_at_call 100; exact Calls.quiet_of_same (HW0.out _)))
    go_wp2_with fail
    go_ret
    exact ⟨rfl, by first | exact HB.out | exact below_drewN HB.out _⟩
 have t6 : (c == 6) = false := by simp [o6]
 go_upto_region 17 with fail
 clear t6
 by_cases o11 : c = 11
 ·subst o11
  obtain rfl : k = 2 := by have h := HSh.out; simp [argC] at h; omega
  have HE : Hid (R = (decide ((zf 0) = 33) && isNum ((zf 1)))) := Lib.hid (HRe.out.symm.trans (by unfold ityB; rw [HZf.out 0 (by decide)]; rw [HZf.out 1 (by decide)]; simp))
  have HQ := Lib.hid (fun v h0 (h1 : v < (2 : Int)) u h => HOf.out v u h0 h1 h)
  by_cases h0 : (zf 0) = 33
  rotate_left
  ·have q : ((zf 0) == 33) = false := by simp [h0]
   obtain rfl : R = false := by rw [HE.out]; simp [h0]
   clear h0
   go_wp2_with fail
   refine (HQ.out 0 (by decide) (by decide) _ (Below.refl _ _)).mono ?_; rintro e w5 ⟨rfl, rfl⟩
   go_wp2_with fail
   go_ret
   exact ⟨rfl, by first | exact HB.out | exact below_drewN HB.out _⟩
  have q : ((zf 0) == 33) = true := by simp [h0]
  have HW1 := Lib.hid (HNu.out (zf 1))
  have HE2 : Hid (R = isNum (zf 1)) := Lib.hid (by rw [HE.out]; simp [h0])
  generalize isNum (zf 1) = n1 at *
  obtain rfl := HE2.out
  clear h0
  go_wp2_with fail
  refine (HQ.out 0 (by decide) (by decide) _ (Below.refl _ _)).mono ?_; rintro e w5 ⟨rfl, rfl⟩
  go_wp2_with fail
  refine (HQ.out 1 (by decide) (by decide) _ (Below.refl _ _)).mono ?_; rintro e w5 ⟨rfl, rfl⟩
  go_wp2_with fail
  refine (HW1.out _).mono ?_; rintro e w5 ⟨rfl, rfl⟩
  go_wp2_with fail
  go_ret
  exact ⟨rfl, by first | exact HB.out | exact below_drewN HB.out _⟩
 have t11 : (c == 11) = false := by simp [o11]
 go_upto_region 19 with fail
 clear t11
 by_cases o12 : c = 12
 ·subst o12
  obtain rfl : k = 1 := by have h := HSh.out; simp [argC] at h; omega
  have HE : Hid (R = (decide ((zf 0) = 33))) := Lib.hid (HRe.out.symm.trans (by unfold ityB; rw [HZf.out 0 (by decide)]; simp))
  have HQ := Lib.hid (fun v h0 (h1 : v < (1 : Int)) u h => HOf.out v u h0 h1 h)
  by_cases h0 : (zf 0) = 33
  ·have q : ((zf 0) == 33) = true := by simp [h0]
   obtain rfl : R = true := by rw [HE.out]; simp [h0]
   clear h0
   go_wp2_with fail
   refine (HQ.out 0 (by decide) (by decide) _ (Below.refl _ _)).mono ?_; rintro e w5 ⟨rfl, rfl⟩
   go_wp2_with fail
   go_ret
   exact ⟨rfl, by first | exact HB.out | exact below_drewN HB.out _⟩
  ·have q : ((zf 0) == 33) = false := by simp [h0]
   obtain rfl : R = false := by rw [HE.out]; simp [h0]
   clear h0
   go_wp2_with fail
   refine (HQ.out 0 (by decide) (by decide) _ (Below.refl _ _)).mono ?_; rintro e w5 ⟨rfl, rfl⟩
   go_wp2_with fail
   go_ret
   exact ⟨rfl, by first | exact HB.out | exact below_drewN HB.out _⟩
 have t12 : (c == 12) = false := by simp [o12]
 go_upto_region 21 with fail
 clear t12
 by_cases o13 : c = 13
 ·subst o13
  obtain rfl : k = 2 := by have h := HSh.out; simp [argC] at h; omega
  have HE : Hid (R = (decide ((zf 0) = 33) && isMm ((zf 1)))) := Lib.hid (HRe.out.symm.trans (by unfold ityB; rw [HZf.out 0 (by decide)]; rw [HZf.out 1 (by decide)]; simp))
  have HQ := Lib.hid (fun v h0 (h1 : v < (2 : Int)) u h => HOf.out v u h0 h1 h)
  by_cases h0 : (zf 0) = 33
  rotate_left
  ·have q : ((zf 0) == 33) = false := by simp [h0]
   obtain rfl : R = false := by rw [HE.out]; simp [h0]
   clear h0
   go_wp2_with fail
   refine (HQ.out 0 (by decide) (by decide) _ (Below.refl _ _)).mono ?_; rintro e w5 ⟨rfl, rfl⟩
   go_wp2_with fail
   go_ret
   exact ⟨rfl, by first | exact HB.out | exact below_drewN HB.out _⟩
  have q : ((zf 0) == 33) = true := by simp [h0]
  have HW1 := Lib.hid (HMm.out (zf 1))
  have HE2 : Hid (R = isMm (zf 1)) := Lib.hid (by rw [HE.out]; simp [h0])
  generalize isMm (zf 1) = n1 at *
  obtain rfl := HE2.out
  clear h0
  go_wp2_with fail
  refine (HQ.out 0 (by decide) (by decide) _ (Below.refl _ _)).mono ?_; rintro e w5 ⟨rfl, rfl⟩
  go_wp2_with fail
  refine (HQ.out 1 (by decide) (by decide) _ (Below.refl _ _)).mono ?_; rintro e w5 ⟨rfl, rfl⟩
  go_wp2_with fail
  refine (HW1.out _).mono ?_; rintro e w5 ⟨rfl, rfl⟩
  go_wp2_with fail
  go_ret
  exact ⟨rfl, by first | exact HB.out | exact below_drewN HB.out _⟩
 have t13 : (c == 13) = false := by simp [o13]
 go_upto_region 23 with fail
 clear t13
 by_cases o16 : c = 16
 ·subst o16
  obtain rfl : k = 1 := by have h := HSh.out; simp [argC] at h; omega
  have HE : Hid (R = (decide ((zf 0) = 1))) := Lib.hid (HRe.out.symm.trans (by unfold ityB; rw [HZf.out 0 (by decide)]; simp))
  have HQ := Lib.hid (fun v h0 (h1 : v < (1 : Int)) u h => HOf.out v u h0 h1 h)
  by_cases h0 : (zf 0) = 1
  ·have q : ((zf 0) == 1) = true := by simp [h0]
   obtain rfl : R = true := by rw [HE.out]; simp [h0]
   clear h0
   go_wp2_with fail
   refine (HQ.out 0 (by decide) (by decide) _ (Below.refl _ _)).mono ?_; rintro e w5 ⟨rfl, rfl⟩
   go_wp2_with fail
   go_ret
   exact ⟨rfl, by first | exact HB.out | exact below_drewN HB.out _⟩
  ·have q : ((zf 0) == 1) = false := by simp [h0]
   obtain rfl : R = false := by rw [HE.out]; simp [h0]
   clear h0
   go_wp2_with fail
   refine (HQ.out 0 (by decide) (by decide) _ (Below.refl _ _)).mono ?_; rintro e w5 ⟨rfl, rfl⟩
   go_wp2_with fail
   go_ret
   exact ⟨rfl, by first | exact HB.out | exact below_drewN HB.out _⟩
 have t16 : (c == 16) = false := by simp [o16]
 go_upto_region 25 with fail
 clear t16
 by_cases o17 : c = 17
 ·subst o17
  have HE : Hid (R = (ks.all fun z => decide (z = F.ret))) := Lib.hid (HRe.out.symm.trans (by unfold ityB; simp))
  have HC := Lib.hid (HEa.out F.ret)
  rw [← HE.out] at HC
  go_wp2_with fail
  refine (HC.out _ (Below.refl _ _)).mono ?_; rintro e w5 ⟨rfl, rfl⟩
  go_wp2_with fail
  go_ret
  exact ⟨rfl, by first | exact HB.out | exact below_drewN HB.out _⟩
 have t17 : (c == 17) = false := by simp [o17]
 go_upto_region 27 with fail
 clear t17
 obtain rfl : R = true := HRe.out.symm.trans (by unfold ityB; rw [if_neg (by omega), if_neg o3, if_neg o4, if_neg o5, if_neg o6, if_neg o11, if_neg o12, if_neg o13, if_neg o16, if_neg o17])
 go_wp2_with fail
 go_ret
 exact ⟨rfl, by first | exact HB.out | exact below_drewN HB.out _⟩
end Go.Proofs.YtbbbflnnbbaamaaGreatDoor.PK
