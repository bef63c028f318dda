/- Packed of several texts. -/
import Derived.Test.YtbbbflnnbbaamaaGreatDoorH45
import Derived.Test.YtbbbflnnbbaamaaGreatDoorH41
namespace Go.Proofs.YtbbbflnnbbaamaaGreatDoor.PK
open Go.RowKit

abbrev ins0 (op wd : Int) (ar : List Int) (im : Nat) (tt : List Int) : Ins := ⟨op, wd, 0, ar, im, tt⟩
abbrev F0 (p : Nat) (n : Int) (s t b : Nat) : Fun := ⟨[], n, [], [[ins0 0 n [] s [], ins0 0 n [] t [], ins0 0 n [] b [], ins0 29 0 [] 0 [1]], [ins0 28 n [0, 7] 0 [0, 2], ins0 14 1 [4, 2] p [], ins0 30 0 [5] 0 [2, 3]], [ins0 1 n [4, 1] 0 [], ins0 29 0 [] 0 [1]], [ins0 31 0 [4] 0 []]]⟩
structure W0 (p : Nat) (n : Int) (s t b : Nat) : Prop where
 p9 : p ≤ 9
 n1 : 1 ≤ n
 n2 : n ≤ 32
 s1 : s < 2 ^ n.toNat
 t1 : t < 2 ^ n.toNat
 b1 : b < 2 ^ n.toNat
variable {p : Nat} {n : Int} {s t b : Nat}
theorem W0.pow (_ : W0 p n s t b) : (2 : Nat) ^ n.toNat ≤ 4294967296 := by
 rename_i h
 have h1 : 2 ^ n.toNat ≤ 2 ^ 32 := Nat.pow_le_pow_right (by decide) (by have := h.n2; omega)
 omega
theorem blk4 {P : Nat → Prop} (h0 : P 0) (h1 : P 1) (h2 : P 2) (h3 : P 3) : ∀ k, k < 4 → P k := fun k hk => by
 match k, hk with
 | 0, _ => exact h0
 | 1, _ => exact h1
 | 2, _ => exact h2
 | 3, _ => exact h3
theorem ins10 {P : Nat → Nat → Prop} (h00 : P 0 0) (h01 : P 0 1) (h02 : P 0 2) (h03 : P 0 3) (h10 : P 1 0) (h11 : P 1 1) (h12 : P 1 2) (h20 : P 2 0) (h21 : P 2 1) (h30 : P 3 0) : ∀ k i, k < (F0 p n s t b).bs.length → i < (atBk (F0 p n s t b).bs k).length → P k i := fun k i hk hi => by
 match k, i, hk, hi with
 | 0, 0, _, _ => exact h00
 | 0, 1, _, _ => exact h01
 | 0, 2, _, _ => exact h02
 | 0, 3, _, _ => exact h03
 | 1, 0, _, _ => exact h10
 | 1, 1, _, _ => exact h11
 | 1, 2, _, _ => exact h12
 | 2, 0, _, _ => exact h20
 | 2, 1, _, _ => exact h21
 | 3, 0, _, _ => exact h30
 | 0, i + 4, _, h => exact absurd h (by show ¬ i + 4 < 4; omega)
 | 1, i + 3, _, h => exact absurd h (by show ¬ i + 3 < 3; omega)
 | 2, i + 2, _, h => exact absurd h (by show ¬ i + 2 < 2; omega)
 | 3, i + 1, _, h => exact absurd h (by show ¬ i + 1 < 1; omega)
 | k + 4, _, h, _ => exact absurd h (by show ¬ k + 4 < 4; omega)
theorem f0_sm : FunSm (F0 p n s t b) :=
 ⟨Nat.zero_le _, Nat.zero_le _, by show 4 ≤ 40; omega, blk4 (by show 4 ≤ 100; omega) (by show 3 ≤ 100; omega) (by show 2 ≤ 100; omega) (by show 1 ≤ 100; omega),
  ins10 (of_decide_eq_true rfl) (of_decide_eq_true rfl) (of_decide_eq_true rfl) (of_decide_eq_true rfl) (of_decide_eq_true rfl) (of_decide_eq_true rfl) (of_decide_eq_true rfl) (of_decide_eq_true rfl) (of_decide_eq_true rfl) (of_decide_eq_true rfl)⟩
theorem f0_ok (h : W0 p n s t b) : FunOk (F0 p n s t b) := by
 have hp := h.pow
 have := h.s1; have := h.t1; have := h.b1; have := h.p9
 refine ⟨f0_sm, ins10 ?_ ?_ ?_ ?_ ?_ ?_ ?_ ?_ ?_ ?_, ins10 ?_ ?_ ?_ ?_ ?_ ?_ ?_ ?_ ?_ ?_⟩
 ·show s < _; omega
 ·show t < _; omega
 ·show b < _; omega
 ·show 0 < _; omega
 ·show 0 < _; omega
 ·show p < _; omega
 ·show 0 < _; omega
 ·show 0 < _; omega
 ·show 0 < _; omega
 ·show 0 < _; omega
 all_goals exact ⟨by show (-9223372036854775808 : Int) ≤ 0; omega, by show (0 : Int) < 9223372036854775808; omega⟩
theorem f0_shp (h : W0 p n s t b) : shpP (F0 p n s t b) := by
 obtain ⟨h1, h2, h3, h4, h5, h6⟩ := h
 refine ins10 ?_ ?_ ?_ ?_ ?_ ?_ ?_ ?_ ?_ ?_
 all_goals simp [shapeB, insA, atI, atBk, clsI, formI, flOk, flgI, argsI, tosI, isNum, h1, h2, h3, h4, h5, h6]
 all_goals (try omega)
theorem f0_graph : gI (F0 p n s t b) = [[1], [2, 3], [1], []] := rfl
theorem f0_kds : kdsI (F0 p n s t b) = [n, n, n, 0, n, 1, 0, n, 0, 0] := rfl
theorem f0_laid : laidP (F0 p n s t b) := by
 refine ⟨blk4 ?_ ?_ ?_ ?_, by rw [f0_graph]; exact of_decide_eq_true rfl, ins10 ?_ ?_ ?_ ?_ ?_ ?_ ?_ ?_ ?_ ?_⟩
 ·exact ⟨of_decide_eq_true rfl, fun i hi => by
   match i, hi with
   | 0, _ => exact of_decide_eq_true rfl
   | 1, _ => exact of_decide_eq_true rfl
   | 2, _ => exact of_decide_eq_true rfl
   | 3, _ => exact of_decide_eq_true rfl⟩
 ·exact ⟨of_decide_eq_true rfl, fun i hi => by
   match i, hi with
   | 0, _ => exact of_decide_eq_true rfl
   | 1, _ => exact of_decide_eq_true rfl
   | 2, _ => exact of_decide_eq_true rfl⟩
 ·exact ⟨of_decide_eq_true rfl, fun i hi => by
   match i, hi with
   | 0, _ => exact of_decide_eq_true rfl
   | 1, _ => exact of_decide_eq_true rfl⟩
 ·exact ⟨of_decide_eq_true rfl, fun i hi => by
   match i, hi with
   | 0, _ => exact of_decide_eq_true rfl⟩
 all_goals first | exact fun e => absurd e (of_decide_eq_true rfl) | exact fun _ => by rw [f0_graph]; exact of_decide_eq_true rfl
theorem f0_typ (h : W0 p n s t b) : typP (F0 p n s t b) := by
 obtain ⟨h1, h2, h3, h4, h5, h6⟩ := h
 refine ins10 ?_ ?_ ?_ ?_ ?_ ?_ ?_ ?_ ?_ ?_
 all_goals rw [f0_kds]
 all_goals simp [rtyB, ksI, ofI, insA, atI, atBk, isNum]
 all_goals (try omega)
end Go.Proofs.YtbbbflnnbbaamaaGreatDoor.PK
namespace Go.Proofs.YtbbbflnnbbaamaaGreatDoor.PK
open Go.RowKit

theorem head_num {F : Fun} (h : headB F = true) {k : Nat} (hk : k < F.ps.length) : isNum (F.ps.getD k 0) = true := by
 unfold headB at h
 simp only [Bool.and_eq_true] at h
 exact List.all_eq_true.1 h.1.1 _ (getDm hk)
end Go.Proofs.YtbbbflnnbbaamaaGreatDoor.PK
namespace Go.Proofs.YtbbbflnnbbaamaaGreatDoor.PK
open Go.RowKit

set_option maxRecDepth 100000 in
set_option maxHeartbeats 2000000 in
theorem rValidateInput_any (F : Fun) (A : FunA) (l : List Int) (ls : List (List Int)) (a b : Option Addr) (c e : Nat) (w : World) (hin : FunIn w F A) (hok : FunOk F) (hl : WsIn w a l) (hls : RowsIn w b ls) (hw : ∀ k, k < l.length → isW (l.getD k 0)) (hsm : InSm l ls) :
  Calls Tryz.prog 26 #[funV F A, inV l ls a b c e] w (ErrPost (inE F l ls) w) := by
 obtain ⟨pa, pc, sa, sc, ba, bc⟩ := A
 have hal : Below w.heap.size w ((w.alloc (.cells #[.slice pa F.ps.length pc, .int .i64 F.ret, .slice sa F.sl.length sc, .slice ba F.bs.length bc] 31)).alloc (.cells #[.slice a l.length c, .slice b ls.length e] 41)) := ((Below.refl _ _).alloc (Nat.le_refl _) _).alloc (by simp) _
 have HI := Lib.hid (hin.below hal); have HL := Lib.hid (hl.below hal); have HLs := Lib.hid (hls.below hal)
 have hr1 : ((w.alloc (.cells #[.slice pa F.ps.length pc, .int .i64 F.ret, .slice sa F.sl.length sc, .slice ba F.bs.length bc] 31)).alloc (.cells #[.slice a l.length c, .slice b ls.length e] 41)).heap[w.heap.size + 1]? = some ((.cells #[.slice a l.length c, .slice b ls.length e] 41) : Obj) := by
  have := heap_alloc_new (w.alloc (.cells #[.slice pa F.ps.length pc, .int .i64 F.ret, .slice sa F.sl.length sc, .slice ba F.bs.length bc] 31)) (.cells #[.slice a l.length c, .slice b ls.length e] 41)
  simpa using this
 have hr0 : ((w.alloc (.cells #[.slice pa F.ps.length pc, .int .i64 F.ret, .slice sa F.sl.length sc, .slice ba F.bs.length bc] 31)).alloc (.cells #[.slice a l.length c, .slice b ls.length e] 41)).heap[w.heap.size]? = some ((.cells #[.slice pa F.ps.length pc, .int .i64 F.ret, .slice sa F.sl.length sc, .slice ba F.bs.length bc] 31) : Obj) := by
  rw [Below.heap_alloc _ _ _ (by simp)]
  exact heap_alloc_new _ _
 have HB0 := Lib.hid hal
 have g0 := cell_of_row _ _ 0 _ _ _ hr0; have g1 := cell_of_row _ _ 1 _ _ _ hr0; have g2 := cell_of_row _ _ 2 _ _ _ hr0; have g3 := cell_of_row _ _ 3 _ _ _ hr0
 have i0 := cell_of_row _ _ 0 _ _ _ hr1; have i1 := cell_of_row _ _ 1 _ _ _ hr1
 have HG0 := Lib.hid g0; have HG2 := Lib.hid g2; have HI0 := Lib.hid i0; have HI1 := Lib.hid i1
 have HVa := Lib.hid (fun u (h : FunIn u F ⟨pa, pc, sa, sc, ba, bc⟩) => rValidate_any F ⟨pa, pc, sa, sc, ba, bc⟩ u h hok)
 have HPP : Hid (∀ n W', inE F l ls = n → Below w.heap.size w W' → ErrPost (inE F l ls) w (.returned (.int .i64 n)) W') := Lib.hid fun n W' h1 h2 => ⟨by rw [h1], h2⟩
 have HNo := Lib.hid (fun h => inE_no (F := F) (l := l) (ls := ls) h)
 have HBad := Lib.hid (fun h h2 => inE_bad (F := F) (l := l) (ls := ls) h h2)
 have HOk := Lib.hid (fun h h2 => inE_ok (F := F) (l := l) (ls := ls) h h2)
 have HGd := Lib.hid (fun h => errF_good (F := F) h)
 have hsp := hok.sm.ps; have hss := hok.sm.sl
 have hn1 := hsm.ar; have hn2 := hsm.me
 have HRow := Lib.hid hsm.row; have HW := Lib.hid hw
 have HIn : Hid (inP F l ls ↔ l.length = F.ps.length ∧ ls.length = F.sl.length ∧ (∀ i, i < F.ps.length → l.getD i 0 ≤ mxI (F.ps.getD i 0)) ∧ ∀ s, s < F.sl.length → ((ls.getD s []).length : Int) = F.sl.getD s 0 ∧ (ls.getD s []).all byB = true) := Lib.hid Iff.rfl
 generalize ErrPost (inE F l ls) w = PP at *
 generalize inE F l ls = R at *
 clear hin hal hr0 hr1 hok hl hls hw hsm
 simp only [funV, funC, inV] at HVa ⊢
 generalize hnp : F.ps.length = np at *
 have HNp := Lib.hid hnp; clear hnp
 generalize hns : F.sl.length = ns at *
 have HNs := Lib.hid hns; clear hns
 generalize hnl : l.length = nl at *
 have HNl := Lib.hid hnl; clear hnl
 generalize hnm : ls.length = nm at *
 have HNm := Lib.hid hnm; clear hnm
 go_enter Tryz.func26, Tryz.ntmps26
 go_upto_region 1 with fail
 generalize ((w.alloc _).alloc _) = w1 at *
 have HV1 := Lib.hid (HVa.out w1 HI.out)
 go_wp2_with fail
 refine HV1.out.mono ?_; rintro e w2 ⟨rfl, hb2⟩
 have HB2 := Lib.hid hb2
 have HBw := Lib.hid (HB0.out.trans (hb2.mono HB0.out.size))
 have HI2 := Lib.hid (HI.out.below hb2); have HL2 := Lib.hid (HL.out.below hb2); have HLs2 := Lib.hid (HLs.out.below hb2)
 have d0 := keep HG0.out hb2; have d2 := keep HG2.out hb2; have j0 := keep HI0.out hb2; have j1 := keep HI1.out hb2
 have HD0 := Lib.hid d0; have HD2 := Lib.hid d2; have HJ0 := Lib.hid j0; have HJ1 := Lib.hid j1
 clear hb2 g0 g1 g2 g3 i0 i1
 generalize hee : errF F = ee at *
 have HEe := Lib.hid hee; clear hee
 by_cases h0 : ee = 0
 rotate_left
 ·have HE := Lib.hid (HPP.out ee w2 (HNo.out h0) HBw.out)
  have q : (ee != 0) = true := bne_iff_ne.2 h0
  clear h0
  go_wp2_with fail
  first | exact HE.out | (go_ret; exact HE.out)
 subst h0
 have HG := Lib.hid (HGd.out rfl)
 have q0 : ((0 : Int) != 0) = false := rfl
 by_cases e1 : nl = np
 rotate_left
 ·have HE := Lib.hid (HPP.out 1 w2 (HBad.out rfl (fun h => e1 (HIn.out.1 h).1)) HBw.out)
  have q : ((nl : Int) != (np : Int)) = true := bne_iff_ne.2 (by omega)
  clear e1
  go_wp2_with fail
  first | exact HE.out | (go_ret; exact HE.out)
 have qe1 : ((nl : Int) != (np : Int)) = false := by simp [e1]
 by_cases e2 : nm = ns
 rotate_left
 ·have HE := Lib.hid (HPP.out 1 w2 (HBad.out rfl (fun h => e2 (HIn.out.1 h).2.1)) HBw.out)
  have q : ((nm : Int) != (ns : Int)) = true := bne_iff_ne.2 (by omega)
  clear e1 e2
  go_wp2_with fail
  first | exact HE.out | (go_ret; exact HE.out)
 subst e1 e2
 clear qe1
 go_wp2_with fail
 clear d0 d2 j0 j1 q0
 go_loopw [6] (fun i wr => ∃ k : Nat, k ≤ nl ∧ i = .int .i64 k ∧ Hid (∀ m, m < k → l.getD m 0 ≤ mxI (F.ps.getD m 0)) ∧ Below w2.heap.size w2 wr) (fun i _ => nl - (intOf i).toNat)
 case atStart => exact ⟨0, Nat.zero_le _, rfl, Lib.hid fun j hj => absurd hj (Nat.not_lt_zero _), Below.refl _ _⟩
 case round =>
  obtain ⟨k, hk, rfl, HK, hbk⟩ := hrel
  have HBk := Lib.hid hbk
  have HBkw := Lib.hid (HBw.out.trans (hbk.mono HBw.out.size))
  by_cases hlt : k < nl
  ·have hki : (k : Int) < (nl : Int) := by omega
   obtain ⟨b1, o1, ha1, c1⟩ := (HI2.out.below hbk).ps k (by rw [HNp.out]; exact hlt)
   obtain ⟨b2, o2, ha2, c2⟩ := (HL2.out.below hbk) k (by rw [HNl.out]; exact hlt)
   obtain rfl : pa = _ := ha1
   obtain rfl : a = _ := ha2
   have j0 := keep HJ0.out hbk; have d0 := keep HD0.out hbk
   have hnum : isNum (F.ps.getD k 0) = true := head_num HG.out.head (by rw [HNp.out]; exact hlt)
   have HMk : Hid (∀ u, Calls Tryz.prog 49 #[.int .i64 (F.ps.getD k 0), .int .u32 (l.getD k 0)] u fun e w' => e = .returned (.bool (decide (l.getD k 0 ≤ mxI (F.ps.getD k 0)))) ∧ w' = u) := Lib.hid fun u => by
    have := w1IsWord_any (F.ps.getD k 0) (l.getD k 0) u (HW.out k hlt)
    rwa [hnum, Bool.true_and] at this
   have HNk : Hid (¬ l.getD k 0 ≤ mxI (F.ps.getD k 0) → R = 1) := Lib.hid fun h => HBad.out (by trivial) fun h2 => h ((HIn.out.1 h2).2.2.1 k hlt)
   have HKx : Hid (l.getD k 0 ≤ mxI (F.ps.getD k 0) → ∀ m, m < k + 1 → l.getD m 0 ≤ mxI (F.ps.getD m 0)) := Lib.hid fun h m hm => by
    by_cases e : m = k
    ·subst e; exact h
    ·exact HK.out m (by omega)
   clear hnum hbk
   generalize hdd : decide (l.getD k 0 ≤ mxI (F.ps.getD k 0)) = dd at *
   have HDd := Lib.hid hdd; clear hdd
   generalize F.ps.getD k 0 = y at *
   generalize l.getD k 0 = x at *
   go_upto_region 9 with fail
   go_quiet ((go_at_call 49; exact Calls.quiet_of_same (HMk.out _)))
   cases dd
   ·have HE := Lib.hid (fun W' (h : Below w.heap.size w W') => HPP.out 1 W' (HNk.out (of_decide_eq_false HDd.out)) h)
    clear j0 d0 c1 c2
    go_wp2_with fail
    first | exact HE.out _ (below_drewN HBkw.out _) | (go_ret; exact HE.out _ (below_drewN HBkw.out _))
   ·have HKn := Lib.hid (HKx.out (of_decide_eq_true HDd.out))
    clear j0 d0 c1 c2
    go_wp2_with fail
    go_roundw
    case rel => exact ⟨k + 1, by omega, by go_num, HKn, below_drewN HBk.out _⟩
    case measure => simp [intOf]; omega
  obtain rfl : k = nl := by omega
  obtain ⟨wo, rfl⟩ : ∃ wo, wo = wr := ⟨_, rfl⟩
  have HKa := Lib.hid HK.out
  have j0 := keep HJ0.out hbk
  clear hbk hk
  go_wp2_with fail
  clear j0
  go_loopw [7] (fun i wr => ∃ s : Nat, s ≤ nm ∧ i = .int .i64 s ∧ Hid (∀ m, m < s → ((ls.getD m []).length : Int) = F.sl.getD m 0 ∧ (ls.getD m []).all byB = true) ∧ Below w2.heap.size w2 wr) (fun i _ => nm - (intOf i).toNat)
  case atStart => exact ⟨0, Nat.zero_le _, rfl, Lib.hid fun j hj => absurd hj (Nat.not_lt_zero _), HBk.out⟩
  case round =>
   obtain ⟨s, hs, rfl, HS, hbs⟩ := hrel
   obtain ⟨ws, rfl⟩ : ∃ ws, ws = wr := ⟨_, rfl⟩
   have HBs := Lib.hid hbs
   have HBx := Lib.hid (HBw.out.trans (hbs.mono HBw.out.size))
   have j1 := keep HJ1.out hbs; have d2 := keep HD2.out hbs
   by_cases hls : s < nm
   rotate_left
   ·obtain rfl : s = nm := by omega
    have HE := Lib.hid (HPP.out 0 ws (HOk.out (by trivial) (HIn.out.2 ⟨by trivial, by trivial, HKa.out, HS.out⟩)) HBx.out)
    clear hbs
    go_wp2_with fail
    first | exact HE.out | (go_ret; exact HE.out)
   have hsi : (s : Int) < (nm : Int) := by omega
   obtain ⟨b1, o1, ha1, c1⟩ := (HI2.out.below hbs).sl s (by rw [HNs.out]; exact hls)
   obtain ⟨b2, o2, a2, c2', ha2, c2, hrow⟩ := (HLs2.out.below hbs) s (by rw [HNm.out]; exact hls)
   obtain rfl : sa = _ := ha1
   obtain rfl : b = _ := ha2
   have hrl := HRow.out s hls
   have HRr := Lib.hid hrow
   have HNs2 : Hid (¬ (((ls.getD s []).length : Int) = F.sl.getD s 0 ∧ (ls.getD s []).all byB = true) → R = 1) := Lib.hid fun h => HBad.out (by trivial) fun h2 => h ((HIn.out.1 h2).2.2.2 s hls)
   have HSx : Hid ((((ls.getD s []).length : Int) = F.sl.getD s 0 ∧ (ls.getD s []).all byB = true) → ∀ m, m < s + 1 → ((ls.getD m []).length : Int) = F.sl.getD m 0 ∧ (ls.getD m []).all byB = true) := Lib.hid fun h m hm => by
    by_cases e : m = s
    ·subst e; exact h
    ·exact HS.out m (by omega)
   have HAy := Lib.hid (fun h => all_getD (p := byB) (l := ls.getD s []) h)
   have HAn := Lib.hid (fun k hk h => all_not (p := byB) (l := ls.getD s []) (k := k) hk h)
   have HC2 := Lib.hid c2
   clear hbs hrow
   generalize (ls.getD s []).all byB = ab at *
   generalize hrr : (ls.getD s []).length = rr at *
   have HRl := Lib.hid hrr; clear hrr
   generalize ls.getD s [] = row at *
   generalize F.sl.getD s 0 = y at *
   go_upto_region 14 with fail
   by_cases hy : (rr : Int) = y
   rotate_left
   ·have q : ((rr : Int) != y) = true := bne_iff_ne.2 hy
    have HE := Lib.hid (fun W' (h : Below w.heap.size w W') => HPP.out 1 W' (HNs2.out (fun h => hy h.1)) h)
    clear hy
    go_quiet (fail)
    clear j1 d2 c1 c2
    go_wp2_with fail
    first | exact HE.out _ (below_drewN HBx.out _) | (go_ret; exact HE.out _ (below_drewN HBx.out _))
   have q : ((rr : Int) != y) = false := by simp [hy]
   have HY := Lib.hid hy
   clear hy
   go_quiet (fail)
   clear j1 d2 c1 c2
   have HBd := Lib.hid (below_drewN (Below.refl ws.heap.size ws) nq)
   have HBd2 := Lib.hid (below_drewN HBs.out nq)
   generalize ws.drewN nq = wd at *
   go_wp2_with fail
   go_loopw [8] (fun i wr => ∃ t : Nat, t ≤ rr ∧ i = .int .i64 t ∧ Hid (∀ m, m < t → byB (row.getD m 0) = true) ∧ wd = wr) (fun i _ => rr - (intOf i).toNat)
   case atStart => exact ⟨0, Nat.zero_le _, rfl, Lib.hid fun j hj => absurd hj (Nat.not_lt_zero _), rfl⟩
   case round =>
    obtain ⟨t, ht, rfl, HTt, rfl⟩ := hrel
    have j1 := keep HJ1.out HBd2.out
    have c2 := keep HC2.out HBd.out
    by_cases htr : t < rr
    rotate_left
    ·obtain rfl : t = rr := by omega
     have hab := HAy.out (fun m hm => HTt.out m hm)
     have HSn := Lib.hid (HSx.out ⟨HY.out, hab⟩)
     clear hab
     go_wp2_with fail
     go_roundw
     case rel => exact ⟨s + 1, by omega, by go_num, HSn, HBd2.out⟩
     case measure => simp [intOf]; omega
    have hti : (t : Int) < (rr : Int) := by omega
    obtain ⟨b3, o3, rfl, c3⟩ := (HRr.out.below HBd.out) t (by rw [HRl.out]; exact htr)
    have HBn : Hid (byB (row.getD t 0) = false → R = 1) := Lib.hid fun h => HNs2.out fun h2 => by
     have := HAn.out t htr h
     rw [this] at h2; cases h2.2
    have HTx : Hid (byB (row.getD t 0) = true → ∀ m, m < t + 1 → byB (row.getD m 0) = true) := Lib.hid fun h m hm => by
     by_cases e : m = t
     ·subst e; exact h
     ·exact HTt.out m (by omega)
    have HByy : Hid (byB (row.getD t 0) = decide (-1 ≤ row.getD t 0 ∧ row.getD t 0 ≤ 255)) := Lib.hid rfl
    generalize row.getD t 0 = z at *
    generalize byB z = bz at *
    have HBWd := Lib.hid (HBw.out.trans (HBd2.out.mono HBw.out.size))
    by_cases z1 : z < -1
    ·have HE := Lib.hid (HPP.out 1 wd (HBn.out (HByy.out.trans (decide_eq_false (by omega)))) HBWd.out)
     go_wp2_with fail
     first | exact HE.out | (go_ret; exact HE.out)
    by_cases z2 : 255 < z
    ·have HE := Lib.hid (HPP.out 1 wd (HBn.out (HByy.out.trans (decide_eq_false (by omega)))) HBWd.out)
     go_wp2_with fail
     first | exact HE.out | (go_ret; exact HE.out)
    have HTn := Lib.hid (HTx.out (HByy.out.trans (decide_eq_true (by omega))))
    go_wp2_with fail
    go_roundw
    case rel => exact ⟨t + 1, by omega, by go_num, HTn, by trivial⟩
    case measure => simp [intOf]; omega
end Go.Proofs.YtbbbflnnbbaamaaGreatDoor.PK
