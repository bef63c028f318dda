/- Packed of several texts. -/
import Derived.Test.YtbbbflnnbbaamaaGreatDoorH14
namespace Go.Proofs.YtbbbflnnbbaamaaGreatDoor.PK
open Go.RowKit

theorem mem_take1 {l : List Int} {m : Nat} (h : m < l.length) (r : Int) : r ∈ l.take (m + 1) ↔ r = l.getD m 0 ∨ r ∈ l.take m := by
 rw [List.take_succ_eq_append_getElem h, List.mem_append, List.mem_singleton, List.getD_eq_getElem?_getD, List.getElem?_eq_getElem h]
 exact Or.comm
theorem has_any (xs : List Int) (a : Option Addr) (cap : Nat) (n : Int) (w : World) (hin : IntsIn w a xs) (hl : xs.length ≤ 1000000) :
  Calls Tryz.prog 135 #[.slice a xs.length cap, .int .i64 n] w fun e w' => e = .returned (.bool (decide (n ∈ xs))) ∧ Below w.heap.size w w' := by
 have HI := Lib.hid hin
 have HY : Hid (∀ k, k < xs.length → xs.getD k 0 = n → decide (n ∈ xs) = true) := Lib.hid fun k hk h => by
  rw [decide_eq_true_iff, ← h, List.getD_eq_getElem?_getD, List.getElem?_eq_getElem hk]
  exact List.getElem_mem hk
 have HN : Hid (n ∉ xs.take xs.length → decide (n ∈ xs) = false) := Lib.hid fun h => by rw [List.take_length] at h; exact decide_eq_false h
 have HS := Lib.hid (fun k hk => mem_take1 (l := xs) (m := k) hk n)
 clear hin
 generalize decide (n ∈ xs) = r at *
 go_enter Tryz.func135, Tryz.ntmps135
 go_wp2_with fail
 go_loopw [5] (fun i wr => ∃ k : Nat, k ≤ xs.length ∧ i = .int .i64 k ∧ Hid (n ∉ xs.take k) ∧ Below w.heap.size w wr) (fun i _ => xs.length - (intOf i).toNat)
 case atStart => exact ⟨0, Nat.zero_le _, rfl, Lib.hid (by simp), Below.refl _ _⟩
 case round =>
  obtain ⟨k, hk, rfl, HNt, hb⟩ := hrel
  have HB := Lib.hid hb
  by_cases hlt : k < xs.length
  rotate_left
  ·obtain rfl : k = xs.length := by omega
   obtain rfl := HN.out HNt.out
   clear hb
   go_wp2_with fail
   go_ret
   exact ⟨rfl, HB.out⟩
  obtain ⟨b, off, rfl, hc⟩ := HI.out.below hb k hlt
  have hki : (k : Int) < (xs.length : Int) := by omega
  have hy := HY.out k hlt
  have HSk := Lib.hid (HS.out k hlt)
  clear hb
  generalize xs.getD k 0 = x at *
  by_cases hx : x = n
  ·obtain rfl := hy hx
   have hxx : (x == n) = true := by simp [hx]
   clear hx hy
   go_wp2_with fail
   go_ret
   exact ⟨rfl, HB.out⟩
  ·have hxx : (x == n) = false := by simp [hx]
   have HNn : Hid (n ∉ xs.take (k + 1)) := Lib.hid fun h => by
    rcases HSk.out.1 h with h | h
    ·exact hx h.symm
    ·exact HNt.out h
   clear hx hy
   go_wp2_with fail
   go_roundw
   case rel => exact ⟨k + 1, by omega, by go_num, HNn, HB.out⟩
   case measure => simp [intOf]; omega
theorem FunSm.sum {F : Fun} (h : FunSm F) : ∀ k, k ≤ F.bs.length → sumI F.bs k ≤ 4000 := fun k hk => by
 have := sumI_le 100 h.ins k hk
 have h2 := h.bs
 have : k * 100 ≤ 40 * 100 := Nat.mul_le_mul_right _ (by omega)
 omega
set_option maxRecDepth 100000 in
theorem Number_any (F : Fun) (A : FunA) (bk : Nat) (w : World) (hin : FunIn w F A) (hs : FunSm F) (hb : bk ≤ F.bs.length) :
  Calls Tryz.prog 50 #[funV F A, .int .i64 (bk : Nat)] w fun e w' => e = .returned (.int .i64 ((F.ps.length + sumI F.bs bk : Nat) : Int)) ∧ Below w.heap.size w w' := by
 have hal : Below w.heap.size w (w.alloc (.cells #[.slice A.pa F.ps.length A.pc, .int .i64 F.ret, .slice A.sa F.sl.length A.sc, .slice A.ba F.bs.length A.bc] 31)) := (Below.refl _ _).alloc (Nat.le_refl _) _
 have HI := Lib.hid (hin.below hal)
 have hr0 : (w.alloc (.cells #[.slice A.pa F.ps.length A.pc, .int .i64 F.ret, .slice A.sa F.sl.length A.sc, .slice A.ba F.bs.length A.bc] 31)).heap[w.heap.size]? = some (.cells (funC F A) 31 (0, 0)) := heap_alloc_new _ _
 obtain ⟨g0, g1, g2, g3⟩ := funC_at hr0
 have HB0 := Lib.hid hal; have HG0 := Lib.hid g0; have HG3 := Lib.hid g3
 have hsp := hs.ps
 have hsb := hs.bs
 have HSu := Lib.hid hs.sum
 have HIn := Lib.hid hs.ins
 have HSn := Lib.hid (fun k h => sumI_succ (ls := F.bs) (k := k) h)
 clear hin hal hr0 hs
 simp only [funV, funC]
 go_enter Tryz.func50, Tryz.ntmps50
 go_upto_region 1 with fail
 generalize w.alloc (.cells #[.slice A.pa F.ps.length A.pc, .int .i64 F.ret, .slice A.sa F.sl.length A.sc, .slice A.ba F.bs.length A.bc] 31) = w1 at *
 go_wp2_with fail
 clear g0 g1 g2 g3
 go_loopw [6, 5] (fun i v wr => ∃ k : Nat, k ≤ bk ∧ i = .int .i64 k ∧ v = .int .i64 ((F.ps.length + sumI F.bs k : Nat) : Int) ∧ w1 = wr) (fun i _ _ => bk - (intOf i).toNat)
 case atStart => exact ⟨0, Nat.zero_le _, rfl, by simp [sumI], rfl⟩
 case round =>
  obtain ⟨k, hk, rfl, rfl, rfl⟩ := hrel
  by_cases hlt : k < bk
  rotate_left
  ·obtain rfl : k = bk := by omega
   go_wp2_with fail
   go_ret
   exact ⟨rfl, HB0.out⟩
  have hki : (k : Int) < (bk : Int) := by omega
  have hkl : (k : Int) < (F.bs.length : Int) := by omega
  obtain ⟨b, off, a', cap, ha, hc, _⟩ := HI.out.bs k (by omega)
  have hm := HIn.out k (by omega)
  have hsu := HSu.out k (by omega)
  have HSk := Lib.hid (HSn.out k (by omega))
  have g3 := HG3.out
  rw [ha] at g3
  generalize (atBk F.bs k).length = m at *
  generalize hss : sumI F.bs k = sk at *
  have HSs := Lib.hid hss; clear hss
  have hp2 : F.ps.length + sk < 1000000 := by omega
  go_wp2_with fail
  go_roundw
  case rel => exact ⟨k + 1, by omega, by go_num, by rw [HSk.out]; simp; omega, by trivial⟩
  case measure => simp [intOf]; omega
theorem count_any (F : Fun) (A : FunA) (w : World) (hin : FunIn w F A) (hs : FunSm F) :
  Calls Tryz.prog 136 #[funV F A] w fun e w' => e = .returned (.int .i64 ((F.ps.length + sumI F.bs F.bs.length : Nat) : Int)) ∧ Below w.heap.size w w' := by
 have hal : Below w.heap.size w (w.alloc (.cells #[.slice A.pa F.ps.length A.pc, .int .i64 F.ret, .slice A.sa F.sl.length A.sc, .slice A.ba F.bs.length A.bc] 31)) := (Below.refl _ _).alloc (Nat.le_refl _) _
 have HNu := Lib.hid (Number_any F A F.bs.length _ (hin.below hal) hs (Nat.le_refl _))
 have hr0 : (w.alloc (.cells #[.slice A.pa F.ps.length A.pc, .int .i64 F.ret, .slice A.sa F.sl.length A.sc, .slice A.ba F.bs.length A.bc] 31)).heap[w.heap.size]? = some (.cells (funC F A) 31 (0, 0)) := heap_alloc_new _ _
 obtain ⟨g0, g1, g2, g3⟩ := funC_at hr0
 have HB0 := Lib.hid hal
 clear hin hs hal hr0
 generalize F.ps.length + sumI F.bs F.bs.length = N at *
 simp only [funV, funC] at HNu ⊢
 go_enter Tryz.func136, Tryz.ntmps136
 go_upto_region 1 with fail
 generalize w.alloc (.cells #[.slice A.pa F.ps.length A.pc, .int .i64 F.ret, .slice A.sa F.sl.length A.sc, .slice A.ba F.bs.length A.bc] 31) = w1 at *
 go_wp2_with fail
 refine HNu.out.mono ?_; rintro e w2 ⟨rfl, hb2⟩
 have HB := Lib.hid (HB0.out.trans (hb2.mono HB0.out.size))
 clear hb2 g0 g1 g2 g3
 go_wp2_with fail
 go_ret
 exact ⟨rfl, HB.out⟩
def whI (F : Fun) (v : Int) : Int × Int := if (F.ps.length : Int) ≤ v ∧ v < (F.ps.length + sumI F.bs F.bs.length : Nat) then ((locI F.bs (v.toNat - F.ps.length)).1, (locI F.bs (v.toNat - F.ps.length)).2) else (-1, -1)
set_option maxRecDepth 100000 in
theorem where_any (F : Fun) (A : FunA) (v : Int) (w : World) (hin : FunIn w F A) (hs : FunSm F) :
  Calls Tryz.prog 137 #[funV F A, .int .i64 v] w fun e w' => e = .returned (.tuple #[.int .i64 (whI F v).1, .int .i64 (whI F v).2]) ∧ Below w.heap.size w w' := by
 have hal : Below w.heap.size w (w.alloc (.cells #[.slice A.pa F.ps.length A.pc, .int .i64 F.ret, .slice A.sa F.sl.length A.sc, .slice A.ba F.bs.length A.bc] 31)) := (Below.refl _ _).alloc (Nat.le_refl _) _
 have HI := Lib.hid (hin.below hal)
 have hr0 : (w.alloc (.cells #[.slice A.pa F.ps.length A.pc, .int .i64 F.ret, .slice A.sa F.sl.length A.sc, .slice A.ba F.bs.length A.bc] 31)).heap[w.heap.size]? = some (.cells (funC F A) 31 (0, 0)) := heap_alloc_new _ _
 obtain ⟨g0, g1, g2, g3⟩ := funC_at hr0
 have HB0 := Lib.hid hal; have HG0 := Lib.hid g0; have HG3 := Lib.hid g3
 have hsp := hs.ps
 have hsb := hs.bs
 have HSu := Lib.hid hs.sum
 have HIn := Lib.hid hs.ins
 have HSn := Lib.hid (fun k h => sumI_succ (ls := F.bs) (k := k) h)
 have HYes : Hid (∀ k i : Nat, k < F.bs.length → i < (atBk F.bs k).length → v = ((F.ps.length + sumI F.bs k : Nat) : Int) + i → whI F v = ((k : Int), (i : Int))) := Lib.hid fun k i hk hi e => by
  have h1 := sumI_mono hk
  have h2 := locI_at F.bs k i hk hi
  have h3 : v.toNat - F.ps.length = sumI F.bs k + i := by omega
  unfold whI
  rw [if_pos (by omega), h3, h2]
 have HNo : Hid ((v < (F.ps.length : Int) ∨ ((F.ps.length + sumI F.bs F.bs.length : Nat) : Int) ≤ v) → whI F v = (-1, -1)) := Lib.hid fun h => by
  unfold whI
  rw [if_neg (by omega)]
 clear hin hal hr0 hs
 generalize whI F v = W at *
 obtain ⟨W1, W2⟩ := W
 generalize hn : F.bs.length = n at *
 have HNn := Lib.hid hn; clear hn
 simp only [funV, funC]
 rw [HNn.out]
 go_enter Tryz.func137, Tryz.ntmps137
 go_upto_region 1 with fail
 generalize w.alloc (.cells #[.slice A.pa F.ps.length A.pc, .int .i64 F.ret, .slice A.sa F.sl.length A.sc, .slice A.ba n A.bc] 31) = w1 at *
 go_wp2_with fail
 clear g0 g1 g2 g3
 go_loopw [7, 6] (fun i u wr => ∃ k : Nat, k ≤ n ∧ i = .int .i64 k ∧ u = .int .i64 ((F.ps.length + sumI F.bs k : Nat) : Int) ∧ Hid (v < (F.ps.length : Int) ∨ ((F.ps.length + sumI F.bs k : Nat) : Int) ≤ v) ∧ w1 = wr) (fun i _ _ => n - (intOf i).toNat)
 case atStart => exact ⟨0, Nat.zero_le _, rfl, by simp [sumI], Lib.hid (by simp [sumI]; omega), rfl⟩
 case round =>
  obtain ⟨k, hk, rfl, rfl, HP, rfl⟩ := hrel
  have g3 := HG3.out
  by_cases hlt : k < n
  rotate_left
  ·obtain rfl : k = n := by omega
   have e := HNo.out HP.out
   simp only [Prod.mk.injEq] at e
   obtain ⟨rfl, rfl⟩ := e
   go_wp2_with fail
   go_ret2
   exact ⟨rfl, HB0.out⟩
  have hki : (k : Int) < (n : Int) := by omega
  obtain ⟨b, off, a', cap, ha, hc, _⟩ := HI.out.bs k (by rw [HNn.out]; exact hlt)
  have hm := HIn.out k hlt
  have hsu := HSu.out k (by omega)
  have HSk := Lib.hid (HSn.out k hlt)
  have HY := Lib.hid (fun i => HYes.out k i hlt)
  rw [ha] at g3
  generalize (atBk F.bs k).length = m at *
  generalize hss : sumI F.bs k = sk at *
  have HSs := Lib.hid hss; clear hss
  obtain ⟨P, hP⟩ : ∃ P : Nat, F.ps.length + sk = P := ⟨_, rfl⟩
  have hp2 : P < 1000000 := by omega
  have hpm : P + m < 1000000 := by omega
  have HPe := Lib.hid hP
  rw [hP] at HP HY ⊢
  clear hP
  by_cases h1 : (P : Int) ≤ v
  rotate_left
  ·have hv : Hid (v < (F.ps.length : Int)) := Lib.hid (by rcases HP.out with h | h; exact h; omega)
   go_wp2_with fail
   go_roundw
   case rel => exact ⟨k + 1, by omega, by go_num, by rw [HSk.out, show F.ps.length + (sk + m) = P + m by have := HPe.out; omega]; go_num, Lib.hid (.inl hv.out), by trivial⟩
   case measure => simp [intOf]; omega
  by_cases h2 : v < (P : Int) + (m : Int)
  ·obtain ⟨i, rfl⟩ : ∃ i : Nat, v = (P : Int) + (i : Int) := ⟨(v - P).toNat, by omega⟩
   have e := HY.out i (by omega) rfl
   simp only [Prod.mk.injEq] at e
   obtain ⟨rfl, rfl⟩ := e
   have hsb : wrap64 ((P : Int) + (i : Int) - (P : Int)) = (i : Int) := by rw [show (P : Int) + (i : Int) - (P : Int) = (i : Int) by omega]; exact IntWalk.wrap64_in _ (by omega)
   go_wp2_with fail
   go_ret2
   refine ⟨?_, HB0.out⟩
   rw [show (P : Int) + (i : Int) - (P : Int) = (i : Int) by omega]
   rfl
  ·go_wp2_with fail
   go_roundw
   case rel => exact ⟨k + 1, by omega, by go_num, by rw [HSk.out, show F.ps.length + (sk + m) = P + m by have := HPe.out; omega]; go_num, Lib.hid (.inr (by rw [HSk.out]; have := HPe.out; omega)), by trivial⟩
   case measure => simp [intOf]; omega
end Go.Proofs.YtbbbflnnbbaamaaGreatDoor.PK
namespace Go.Proofs.YtbbbflnnbbaamaaGreatDoor.PK
open Go.RowKit

def kdsI (F : Fun) : List Int := F.ps ++ wdsI F.bs (sumI F.bs F.bs.length)
def ofI (K : List Int) (v : Int) : Int := if 0 ≤ v ∧ v < K.length then K.getD v.toNat 0 else -1
theorem kdsI_len (F : Fun) : (kdsI F).length = F.ps.length + sumI F.bs F.bs.length := by
 unfold kdsI; rw [List.length_append, wdsI_len (Nat.le_refl _)]
theorem kdsI_par {F : Fun} {k : Nat} (h : k < F.ps.length) : (kdsI F).getD k 0 = F.ps.getD k 0 := by
 unfold kdsI; rw [List.getD_eq_getElem?_getD, List.getElem?_append_left h, List.getD_eq_getElem?_getD]
theorem kdsI_ins {F : Fun} {k : Nat} (h : k < sumI F.bs F.bs.length) : (kdsI F).getD (F.ps.length + k) 0 = (xI F k).wd := by
 unfold kdsI
 rw [List.getD_eq_getElem?_getD, List.getElem?_append_right (by omega), Nat.add_sub_cancel_left]
 unfold wdsI
 rw [List.getElem?_map, List.getElem?_take, if_pos h, (locI_is F.bs k h).2.2.2]
 rfl
set_option maxRecDepth 100000 in
set_option maxHeartbeats 1000000 in
theorem kind_any (F : Fun) (A : FunA) (v : Int) (w : World) (hin : FunIn w F A) (hs : FunSm F) :
  Calls Tryz.prog 94 #[funV F A, .int .i64 v] w fun e w' => e = .returned (.int .i64 (ofI (kdsI F) v)) ∧ Below w.heap.size w w' := by
 have hal : Below w.heap.size w (w.alloc (.cells #[.slice A.pa F.ps.length A.pc, .int .i64 F.ret, .slice A.sa F.sl.length A.sc, .slice A.ba F.bs.length A.bc] 31)) := (Below.refl _ _).alloc (Nat.le_refl _) _
 have HI := Lib.hid (hin.below hal)
 have hr0 : (w.alloc (.cells #[.slice A.pa F.ps.length A.pc, .int .i64 F.ret, .slice A.sa F.sl.length A.sc, .slice A.ba F.bs.length A.bc] 31)).heap[w.heap.size]? = some (.cells (funC F A) 31 (0, 0)) := heap_alloc_new _ _
 obtain ⟨g0, g1, g2, g3⟩ := funC_at hr0
 have HB0 := Lib.hid hal
 have HC := Lib.hid (fun u h => count_any F A u h hs)
 have HW := Lib.hid (fun u h => where_any F A v u h hs)
 have hsp := hs.ps
 have hsb := hs.bs
 have HSm := Lib.hid hs
 have hsum := hs.sum F.bs.length (Nat.le_refl _)
 have hkl := kdsI_len F
 have HKl := Lib.hid hkl
 clear hin hal hr0 hs
 simp only [funV, funC] at HC HW ⊢
 have HO : Hid (ofI (kdsI F) v = if 0 ≤ v ∧ v < ((F.ps.length + sumI F.bs F.bs.length : Nat) : Int) then (kdsI F).getD v.toNat 0 else -1) := Lib.hid (by unfold ofI; rw [hkl])
 clear hkl
 generalize hW : ofI (kdsI F) v = R at *
 clear hW
 by_cases c1 : v < 0
 ·obtain rfl : R = -1 := HO.out.trans (if_neg (by omega))
  go_enter Tryz.func94, Tryz.ntmps94
  go_upto_region 1 with fail
  generalize w.alloc (.cells #[.slice A.pa F.ps.length A.pc, .int .i64 F.ret, .slice A.sa F.sl.length A.sc, .slice A.ba F.bs.length A.bc] 31) = w1 at *
  go_wp2_with fail
  go_ret
  exact ⟨rfl, HB0.out⟩
 by_cases c2 : ((F.ps.length + sumI F.bs F.bs.length : Nat) : Int) ≤ v
 ·obtain rfl : R = -1 := HO.out.trans (if_neg (by omega))
  generalize F.ps.length + sumI F.bs F.bs.length = N at *
  go_enter Tryz.func94, Tryz.ntmps94
  go_upto_region 1 with fail
  generalize w.alloc (.cells #[.slice A.pa F.ps.length A.pc, .int .i64 F.ret, .slice A.sa F.sl.length A.sc, .slice A.ba F.bs.length A.bc] 31) = w1 at *
  go_wp2_with fail
  refine (HC.out _ HI.out).mono ?_; rintro e w2 ⟨rfl, hb2⟩
  have HB := Lib.hid (HB0.out.trans (hb2.mono HB0.out.size))
  clear hb2 g0 g1 g2 g3
  go_wp2_with fail
  go_ret
  exact ⟨rfl, HB.out⟩
 by_cases c3 : v < (F.ps.length : Int)
 ·obtain ⟨k, rfl⟩ : ∃ k : Nat, v = (k : Int) := ⟨v.toNat, by omega⟩
  have hkp : k < F.ps.length := by omega
  obtain rfl : R = F.ps.getD k 0 := HO.out.trans ((if_pos (by omega)).trans (kdsI_par hkp))
  obtain ⟨b, off, ha, hc⟩ := HI.out.ps k hkp
  obtain ⟨pa, pc, sa, sc, ba, bc⟩ := A
  obtain rfl : pa = some ⟨b, off, none⟩ := ha
  have hkN : (k : Int) < ((F.ps.length + sumI F.bs F.bs.length : Nat) : Int) := by omega
  generalize F.ps.getD k 0 = y at *
  generalize hN : F.ps.length + sumI F.bs F.bs.length = N at *
  clear hN HKl HO c2 HW
  simp only at g0 g1 g2 g3 HC hc HB0 ⊢
  go_enter Tryz.func94, Tryz.ntmps94
  go_upto_region 1 with fail
  generalize w.alloc (.cells #[.slice (some ⟨b, off, none⟩) F.ps.length pc, .int .i64 F.ret, .slice sa F.sl.length sc, .slice ba F.bs.length bc] 31) = w1 at *
  go_wp2_with fail
  refine (HC.out _ HI.out).mono ?_; rintro e w2 ⟨rfl, hb2⟩
  have HB := Lib.hid (HB0.out.trans (hb2.mono HB0.out.size))
  have k0 := keep g0 hb2; have k1 := keep g1 hb2; have k2 := keep g2 hb2; have k3 := keep g3 hb2; have hc2 := keep hc hb2
  clear hb2 g0 g1 g2 g3 hc
  go_wp2_with fail
  go_ret
  exact ⟨rfl, HB.out⟩
 obtain ⟨k, rfl⟩ : ∃ k : Nat, v = ((F.ps.length + k : Nat) : Int) := ⟨v.toNat - F.ps.length, by omega⟩
 have hks : k < sumI F.bs F.bs.length := by omega
 obtain rfl : R = (xI F k).wd := HO.out.trans ((if_pos (by omega)).trans (by rw [Int.toNat_natCast]; exact kdsI_ins hks))
 obtain ⟨l1, l2, l3, _⟩ := locI_is F.bs k hks
 have hwh : whI F ((F.ps.length + k : Nat) : Int) = (((locI F.bs k).1 : Int), ((locI F.bs k).2 : Int)) := by
  unfold whI
  rw [if_pos (by omega), show ((F.ps.length + k : Nat) : Int).toNat - F.ps.length = k by omega]
 rw [hwh] at HW
 obtain ⟨b, off, a', cap, ha, hc, hins⟩ := HI.out.bs _ l1
 obtain ⟨b2, off2, aa, ta, ca, ct, ha2, hx⟩ := hins _ l2
 have x1 := hx.c1
 have hxe : (atI (atBk F.bs (locI F.bs k).1) (locI F.bs k).2).wd = (xI F k).wd := rfl
 rw [hxe] at x1
 obtain ⟨pa, pc, sa, sc, ba, bc⟩ := A
 obtain rfl : ba = some ⟨b, off, none⟩ := ha
 subst ha2
 have hkN : ((F.ps.length + k : Nat) : Int) < ((F.ps.length + sumI F.bs F.bs.length : Nat) : Int) := by omega
 have hkp : ¬ ((F.ps.length + k : Nat) : Int) < (F.ps.length : Int) := by omega
 have hk0 : ¬ ((F.ps.length + k : Nat) : Int) < 0 := by omega
 have HB4 : Hid (∀ u, Below w.heap.size w u → True) := Lib.hid fun _ _ => trivial
 generalize (xI F k).wd = y at *
 generalize hv : ((F.ps.length + k : Nat) : Int) = v at *
 generalize (atBk F.bs (locI F.bs k).1).length = m at *
 generalize (locI F.bs k).1 = i1 at *
 generalize (locI F.bs k).2 = i2 at *
 generalize F.ps.length + sumI F.bs F.bs.length = N at *
 clear hv HKl HO c2 hwh hins hx l3 HB4 hxe
 have l1i : (i1 : Int) < (F.bs.length : Int) := by omega
 have l2i : (i2 : Int) < (m : Int) := by omega
 simp only at g0 g1 g2 g3 HC HW hc HB0 ⊢
 go_enter Tryz.func94, Tryz.ntmps94
 go_upto_region 1 with fail
 generalize w.alloc (.cells #[.slice pa F.ps.length pc, .int .i64 F.ret, .slice sa F.sl.length sc, .slice (some ⟨b, off, none⟩) F.bs.length bc] 31) = w1 at *
 go_wp2_with fail
 refine (HC.out _ HI.out).mono ?_; rintro e w2 ⟨rfl, hb2⟩
 have HB := Lib.hid (HB0.out.trans (hb2.mono HB0.out.size))
 have HZ := Lib.hid (Nat.le_trans HB0.out.size hb2.size)
 have k0 := keep g0 hb2; have k1 := keep g1 hb2; have k2 := keep g2 hb2; have k3 := keep g3 hb2; have hc2 := keep hc hb2; have y1 := keep x1 hb2
 have HWk := Lib.hid (HW.out _ (HI.out.below hb2))
 clear hb2 g0 g1 g2 g3 hc x1
 go_wp2_with fail
 refine HWk.out.mono ?_; rintro e w3 ⟨rfl, hb3⟩
 have HB3 := Lib.hid (HB.out.trans (hb3.mono HZ.out))
 have g0 := keep k0 hb3; have g3 := keep k3 hb3; have hc := keep hc2 hb3; have x1 := keep y1 hb3
 clear hb3 k0 k1 k2 k3 hc2 y1
 go_wp2_with fail
 go_ret
 exact ⟨rfl, HB3.out⟩
theorem risWidth_any (n : Int) (w : World) : Calls Tryz.prog 52 #[.int .i64 n] w fun e w' => e = .returned (.bool (isNum n)) ∧ w' = w := by
 have HN : Hid (isNum n = decide (1 ≤ n ∧ n ≤ 32)) := Lib.hid rfl
 generalize isNum n = r at *
 by_cases h1 : 1 ≤ n
 ·by_cases h2 : n ≤ 32
  ·obtain rfl : r = true := HN.out.trans (decide_eq_true ⟨h1, h2⟩)
   go_enter Tryz.func52, Tryz.ntmps52
   go_wp2_with fail
   go_ret
   exact ⟨rfl, rfl⟩
  ·obtain rfl : r = false := HN.out.trans (decide_eq_false (by omega))
   go_enter Tryz.func52, Tryz.ntmps52
   go_wp2_with fail
   go_ret
   exact ⟨rfl, rfl⟩
 ·obtain rfl : r = false := HN.out.trans (decide_eq_false (by omega))
  go_enter Tryz.func52, Tryz.ntmps52
  go_wp2_with fail
  go_ret
  exact ⟨rfl, rfl⟩
theorem rIsLast_any (op : Int) (w : World) : Calls Tryz.prog 87 #[.int .i64 op] w fun e w' => e = .returned (.bool (isLst op)) ∧ w' = w := by
 have HN : Hid (isLst op = decide (29 ≤ op ∧ op ≤ 32)) := Lib.hid rfl
 generalize isLst op = r at *
 by_cases h1 : op = 29
 ·obtain rfl : r = true := HN.out.trans (decide_eq_true (by omega))
  subst h1
  go_enter Tryz.func87, Tryz.ntmps87
  go_wp2_with fail
  go_ret
  exact ⟨rfl, rfl⟩
 by_cases h2 : op = 30
 ·obtain rfl : r = true := HN.out.trans (decide_eq_true (by omega))
  subst h2
  go_enter Tryz.func87, Tryz.ntmps87
  go_wp2_with fail
  go_ret
  exact ⟨rfl, rfl⟩
 by_cases h3 : op = 31
 ·obtain rfl : r = true := HN.out.trans (decide_eq_true (by omega))
  subst h3
  go_enter Tryz.func87, Tryz.ntmps87
  go_wp2_with fail
  go_ret
  exact ⟨rfl, rfl⟩
 by_cases h4 : op = 32
 ·obtain rfl : r = true := HN.out.trans (decide_eq_true (by omega))
  subst h4
  go_enter Tryz.func87, Tryz.ntmps87
  go_wp2_with fail
  go_ret
  exact ⟨rfl, rfl⟩
 ·obtain rfl : r = false := HN.out.trans (decide_eq_false (by omega))
  have e1 : (op == 29) = false := by simp [h1]
  have e2 : (op == 30) = false := by simp [h2]
  have e3 : (op == 31) = false := by simp [h3]
  have e4 : (op == 32) = false := by simp [h4]
  go_enter Tryz.func87, Tryz.ntmps87
  go_wp2_with fail
  go_ret
  exact ⟨rfl, rfl⟩
end Go.Proofs.YtbbbflnnbbaamaaGreatDoor.PK
