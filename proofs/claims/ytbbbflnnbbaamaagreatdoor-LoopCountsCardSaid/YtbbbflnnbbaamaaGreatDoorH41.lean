/- Packed of several texts. -/
import Derived.Test.YtbbbflnnbbaamaaGreatDoorH34
import Derived.Test.YtbbbflnnbbaamaaGreatDoorH35
import Derived.Test.YtbbbflnnbbaamaaGreatDoorH40
import Derived.Test.YtbbbflnnbbaamaaGreatDoorH19
import Derived.Test.YtbbbflnnbbaamaaGreatDoorH27
import Derived.Deep.QuietTactic
import Derived.BigQuiet
namespace Go.Proofs.YtbbbflnnbbaamaaGreatDoor.PK
open Go.RowKit

def byB (k : Int) : Bool := decide (-1 ≤ k ∧ k ≤ 255)
def inP (F : Fun) (l : List Int) (ls : List (List Int)) : Prop :=
 l.length = F.ps.length ∧ ls.length = F.sl.length ∧ (∀ i, i < F.ps.length → l.getD i 0 ≤ mxI (F.ps.getD i 0)) ∧
  ∀ s, s < F.sl.length → ((ls.getD s []).length : Int) = F.sl.getD s 0 ∧ (ls.getD s []).all byB = true
open Classical in
noncomputable def inE (F : Fun) (l : List Int) (ls : List (List Int)) : Int := if errF F = 0 then (if inP F l ls then 0 else 1) else errF F
theorem inE_no {F : Fun} {l : List Int} {ls : List (List Int)} (h : errF F ≠ 0) : inE F l ls = errF F := if_neg h
theorem inE_bad {F : Fun} {l : List Int} {ls : List (List Int)} (h : errF F = 0) (h2 : ¬ inP F l ls) : inE F l ls = 1 := by unfold inE; rw [if_pos h, if_neg h2]
theorem inE_ok {F : Fun} {l : List Int} {ls : List (List Int)} (h : errF F = 0) (h2 : inP F l ls) : inE F l ls = 0 := by unfold inE; rw [if_pos h, if_pos h2]
theorem w1Width_any (n : Int) (w : World) : Calls Tryz.prog 82 #[.int .i64 n] w fun e w' => e = .returned (.bool (isNum n)) ∧ w' = w := by
 have HN : Hid (isNum n = decide (1 ≤ n ∧ n ≤ 32)) := Lib.hid rfl
 generalize isNum n = r at *
 by_cases h1 : 1 ≤ n
 ·by_cases h2 : n ≤ 32
  ·obtain rfl : r = true := HN.out.trans (decide_eq_true ⟨h1, h2⟩)
   go_enter Tryz.func82, Tryz.ntmps82
   go_wp2_with fail
   go_ret
   exact ⟨rfl, rfl⟩
  ·obtain rfl : r = false := HN.out.trans (decide_eq_false (by omega))
   go_enter Tryz.func82, Tryz.ntmps82
   go_wp2_with fail
   go_ret
   exact ⟨rfl, rfl⟩
 ·obtain rfl : r = false := HN.out.trans (decide_eq_false (by omega))
  go_enter Tryz.func82, Tryz.ntmps82
  go_wp2_with fail
  go_ret
  exact ⟨rfl, rfl⟩
theorem w1Size_any (n : Int) (w : World) (h1 : 1 ≤ n) (h2 : n ≤ 32) : Calls Tryz.prog 83 #[.int .i64 n] w fun e w' => e = .returned (.int .i64 (2 ^ n.toNat)) ∧ w' = w := by
 have hpw := powI_bd n h2
 have hn0 : 0 ≤ n := by omega
 have hn1 : n < 4294967296 := by omega
 go_enter Tryz.func83, Tryz.ntmps83
 go_wp2_with fail
 go_ret
 exact ⟨rfl, rfl⟩
theorem w1IsWord_any (n x : Int) (w : World) (hx : isW x) : Calls Tryz.prog 49 #[.int .i64 n, .int .u32 x] w fun e w' => e = .returned (.bool (isNum n && decide (x ≤ mxI n))) ∧ w' = w := by
 have HW := Lib.hid (w1Width_any n)
 obtain ⟨hx0, hx1⟩ := hx
 cases h : isNum n
 ·rw [h] at HW
  rw [Bool.false_and]
  go_enter Tryz.func49, Tryz.ntmps49
  go_wp2_with fail
  refine (HW.out _).mono ?_; rintro e w2 ⟨rfl, rfl⟩
  go_wp2_with fail
  go_ret
  exact ⟨rfl, rfl⟩
 ·have h1 := isNum_iff.1 h
  rw [h] at HW
  rw [Bool.true_and]
  have HS := Lib.hid (fun u => w1Size_any n u h1.1 h1.2)
  have hpw := powI_bd n h1.2
  have HE : Hid (decide (x < 2 ^ n.toNat) = decide (x ≤ mxI n)) := Lib.hid (by
   rw [decide_eq_decide]; unfold mxI; omega)
  rw [← HE.out]
  generalize (2 : Int) ^ n.toNat = P at *
  clear h h1
  go_enter Tryz.func49, Tryz.ntmps49
  go_wp2_with fail
  refine (HW.out _).mono ?_; rintro e w2 ⟨rfl, rfl⟩
  go_wp2_with fail
  refine (HS.out _).mono ?_; rintro e w2 ⟨rfl, rfl⟩
  go_wp2_with fail
  go_ret
  exact ⟨rfl, rfl⟩
end Go.Proofs.YtbbbflnnbbaamaaGreatDoor.PK
namespace Go.Proofs.YtbbbflnnbbaamaaGreatDoor.PK
open Go.RowKit

theorem w1Size0_any (n : Int) (w : World) (h1 : 0 ≤ n) (h2 : n ≤ 32) : Calls Tryz.prog 83 #[.int .i64 n] w fun e w' => e = .returned (.int .i64 (2 ^ n.toNat)) ∧ w' = w := by
 have hpw := powI_bd n h2
 have hn1 : n < 4294967296 := by omega
 go_enter Tryz.func83, Tryz.ntmps83
 go_wp2_with fail
 go_ret
 exact ⟨rfl, rfl⟩
def sgnI (n x : Int) : Int := if 2 ^ (n.toNat - 1) ≤ x then x - 2 ^ n.toNat else x
theorem w1Sign_any (n x : Int) (w : World) (h1 : 1 ≤ n) (h2 : n ≤ 32) (hx : isW x) :
  Calls Tryz.prog 152 #[.int .i64 n, .int .u32 x] w fun e w' => e = .returned (.int .i64 (sgnI n x)) ∧ w' = w := by
 have HS1 := Lib.hid (fun u => w1Size0_any (n - 1) u (by omega) (by omega)); have HS := Lib.hid (fun u => w1Size0_any n u (by omega) h2)
 rw [show (n - 1).toNat = n.toNat - 1 by omega] at HS1
 obtain ⟨x0, x1⟩ := hx
 have p1 := powI_bd n h2
 have p2 := powI_bd (n - 1) (by omega)
 rw [show (n - 1).toNat = n.toNat - 1 by omega] at p2
 unfold sgnI
 generalize (2 : Int) ^ (n.toNat - 1) = H at *
 generalize (2 : Int) ^ n.toNat = P at *
 by_cases h : H ≤ x
 ·rw [if_pos h]
  go_enter Tryz.func152, Tryz.ntmps152
  go_wp2_with fail
  refine (HS1.out _).mono ?_; rintro e w' ⟨rfl, rfl⟩
  go_wp2_with fail
  refine (HS.out _).mono ?_; rintro e w' ⟨rfl, rfl⟩
  go_wp2_with fail
  go_ret
  exact ⟨rfl, rfl⟩
 ·rw [if_neg h]
  go_enter Tryz.func152, Tryz.ntmps152
  go_wp2_with fail
  refine (HS1.out _).mono ?_; rintro e w' ⟨rfl, rfl⟩
  go_wp2_with fail
  go_ret
  exact ⟨rfl, rfl⟩
def cmpJ (p a b : Int) : Bool :=
 if p = 0 then a == b else if p = 1 then a != b else if p = 2 ∨ p = 6 then decide (a < b) else if p = 3 ∨ p = 7 then decide (a ≤ b) else if p = 4 ∨ p = 8 then decide (b < a) else decide (b ≤ a)
theorem w1cmp_any (p a b : Int) (w : World) (hp : 0 ≤ p) (hp9 : p ≤ 9) :
  Calls Tryz.prog 166 #[.int .i64 p, .int .i64 a, .int .i64 b] w fun e w' => e = .returned (.bool (cmpJ p a b)) ∧ w' = w := by
 have h : p = 0 ∨ p = 1 ∨ p = 2 ∨ p = 3 ∨ p = 4 ∨ p = 5 ∨ p = 6 ∨ p = 7 ∨ p = 8 ∨ p = 9 := by omega
 rcases h with rfl | rfl | rfl | rfl | rfl | rfl | rfl | rfl | rfl | rfl
 all_goals
  go_enter Tryz.func166, Tryz.ntmps166
  go_wp2_with fail
  go_ret
  exact ⟨by simp [cmpJ], rfl⟩
theorem w1Pred_any (p : Int) (w : World) (hp : 0 ≤ p) (hp9 : p ≤ 9) : Calls Tryz.prog 165 #[.int .i64 p] w fun e w' => e = .returned (.bool true) ∧ w' = w := by
 go_enter Tryz.func165, Tryz.ntmps165
 go_wp2_with fail
 go_ret
 exact ⟨rfl, rfl⟩
def cmpW (p n a b : Int) : Bool := if 6 ≤ p then cmpJ p (sgnI n a) (sgnI n b) else cmpJ p a b
theorem w1IsWord_yes (n x : Int) (w : World) (h : isNum n = true) (hm : x ≤ mxI n) (h2 : isW x) : Calls Tryz.prog 49 #[.int .i64 n, .int .u32 x] w fun e w' => e = .returned (.bool true) ∧ w' = w := by
 have := w1IsWord_any n x w h2
 rwa [h, Bool.true_and, decide_eq_true hm] at this
theorem w1Compare_ok (p n a b : Int) (w : World) (hp : 0 ≤ p) (hp9 : p ≤ 9) (h : isNum n = true) (ha : isW a) (hb : isW b) (ma : a ≤ mxI n) (mb : b ≤ mxI n) :
  Calls Tryz.prog 155 #[.int .i64 p, .int .i64 n, .int .u32 a, .int .u32 b] w fun e w' => e = .returned (.tuple #[.bool (cmpW p n a b), .int .i64 0]) ∧ w' = w := by
 obtain ⟨h1, h2⟩ := isNum_iff.1 h
 have HP := Lib.hid (fun u => w1Pred_any p u hp hp9)
 have HA := Lib.hid (fun u => w1IsWord_yes n a u h ma ha); have HB := Lib.hid (fun u => w1IsWord_yes n b u h mb hb)
 have HSa := Lib.hid (fun u => w1Sign_any n a u h1 h2 ha); have HSb := Lib.hid (fun u => w1Sign_any n b u h1 h2 hb)
 have HC := Lib.hid (fun x y u => w1cmp_any p x y u hp hp9)
 obtain ⟨a0, a1⟩ := ha; obtain ⟨b0, b1⟩ := hb
 unfold cmpW
 clear h ma mb
 by_cases h6 : 6 ≤ p
 ·rw [if_pos h6]
  go_enter Tryz.func155, Tryz.ntmps155
  go_wp2_with fail
  refine (HP.out _).mono ?_; rintro e w' ⟨rfl, rfl⟩
  go_wp2_with fail
  refine (HA.out _).mono ?_; rintro e w' ⟨rfl, rfl⟩
  go_wp2_with fail
  refine (HB.out _).mono ?_; rintro e w' ⟨rfl, rfl⟩
  go_wp2_with fail
  refine (HSa.out _).mono ?_; rintro e w' ⟨rfl, rfl⟩
  go_wp2_with fail
  refine (HSb.out _).mono ?_; rintro e w' ⟨rfl, rfl⟩
  go_wp2_with fail
  refine (HC.out _ _ _).mono ?_; rintro e w' ⟨rfl, rfl⟩
  go_wp2_with fail
  go_ret2
  exact ⟨rfl, rfl⟩
 ·rw [if_neg h6]
  go_enter Tryz.func155, Tryz.ntmps155
  go_wp2_with fail
  refine (HP.out _).mono ?_; rintro e w' ⟨rfl, rfl⟩
  go_wp2_with fail
  refine (HA.out _).mono ?_; rintro e w' ⟨rfl, rfl⟩
  go_wp2_with fail
  refine (HB.out _).mono ?_; rintro e w' ⟨rfl, rfl⟩
  go_wp2_with fail
  refine (HC.out _ _ _).mono ?_; rintro e w' ⟨rfl, rfl⟩
  go_wp2_with fail
  go_ret2
  exact ⟨rfl, rfl⟩
theorem w1Wrap_any (n x : Int) (w : World) (h1 : 0 ≤ n) (h2 : n ≤ 32) (x0 : 0 ≤ x) : Calls Tryz.prog 161 #[.int .i64 n, .int .i64 x] w fun e w' => e = .returned (.int .u32 (x % 2 ^ n.toNat)) ∧ w' = w := by
 have HS := Lib.hid (fun u => w1Size0_any n u h1 h2)
 have hpw := powI_bd n h2
 generalize (2 : Int) ^ n.toNat = P at *
 have hm0 := Int.emod_nonneg x (show P ≠ 0 by omega)
 have hm1 := Int.emod_lt_of_pos x (show 0 < P by omega)
 have ht : x.tmod P = x % P := Int.tmod_eq_emod_of_nonneg x0
 have hz : (P == 0) = false := by simp; omega
 generalize x % P = r at *
 go_enter Tryz.func161, Tryz.ntmps161
 go_wp2_with fail
 refine (HS.out _).mono ?_; rintro e w' ⟨rfl, rfl⟩
 go_wp2_with fail
 go_ret
 exact ⟨rfl, rfl⟩
theorem w1two_ok (n a b : Int) (w : World) (h : isNum n = true) (ha : isW a) (hb : isW b) (ma : a ≤ mxI n) (mb : b ≤ mxI n) :
  Calls Tryz.prog 162 #[.int .i64 1, .int .i64 n, .int .u32 a, .int .u32 b] w fun e w' => e = .returned (.int .i64 0) ∧ w' = w := by
 have HW := Lib.hid (w1Width_any n)
 rw [h] at HW
 have HA := Lib.hid (fun u => w1IsWord_yes n a u h ma ha); have HB := Lib.hid (fun u => w1IsWord_yes n b u h mb hb)
 clear h ma mb ha hb
 go_enter Tryz.func162, Tryz.ntmps162
 go_wp2_with fail
 refine (HW.out _).mono ?_; rintro e w' ⟨rfl, rfl⟩
 go_wp2_with fail
 refine (HA.out _).mono ?_; rintro e w' ⟨rfl, rfl⟩
 go_wp2_with fail
 refine (HB.out _).mono ?_; rintro e w' ⟨rfl, rfl⟩
 go_wp2_with fail
 go_ret
 exact ⟨rfl, rfl⟩
theorem w1do_add (n a b : Int) (w : World) (h : isNum n = true) (ha : isW a) (hb : isW b) :
  Calls Tryz.prog 163 #[.int .i64 1, .int .i64 n, .int .u32 a, .int .u32 b] w fun e w' => e = .returned (.tuple #[.int .u32 ((a + b) % 2 ^ n.toNat), .bool true]) ∧ w' = w := by
 obtain ⟨h1, h2⟩ := isNum_iff.1 h
 have HSa := Lib.hid (fun u => w1Sign_any n a u h1 h2 ha); have HSb := Lib.hid (fun u => w1Sign_any n b u h1 h2 hb)
 obtain ⟨a0, a1⟩ := ha; obtain ⟨b0, b1⟩ := hb
 have HWr := Lib.hid (fun u => w1Wrap_any n (a + b) u (by omega) h2 (by omega))
 generalize (a + b) % 2 ^ n.toNat = r at *
 generalize sgnI n a = x at *
 generalize sgnI n b = y at *
 clear h
 go_enter Tryz.func163, Tryz.ntmps163
 go_wp2_with fail
 refine (HSa.out _).mono ?_; rintro e w' ⟨rfl, rfl⟩
 go_wp2_with fail
 refine (HSb.out _).mono ?_; rintro e w' ⟨rfl, rfl⟩
 go_wp2_with fail
 refine (HWr.out _).mono ?_; rintro e w' ⟨rfl, rfl⟩
 go_wp2_with fail
 go_ret2
 exact ⟨rfl, rfl⟩
theorem w1Do_add (n a b : Int) (w : World) (h : isNum n = true) (ha : isW a) (hb : isW b) (ma : a ≤ mxI n) (mb : b ≤ mxI n) :
  Calls Tryz.prog 153 #[.int .i64 1, .int .i64 n, .int .u32 a, .int .u32 b] w fun e w' => e = .returned (.tuple #[.int .u32 ((a + b) % 2 ^ n.toNat), .bool true, .int .i64 0]) ∧ w' = w := by
 have HT := Lib.hid (fun u => w1two_ok n a b u h ha hb ma mb); have HD := Lib.hid (fun u => w1do_add n a b u h ha hb)
 have q : ((0 : Int) != 0) = false := rfl
 clear h ha hb ma mb
 generalize (a + b) % 2 ^ n.toNat = r at *
 go_enter Tryz.func153, Tryz.ntmps153
 go_wp2_with fail
 refine (HT.out _).mono ?_; rintro e w' ⟨rfl, rfl⟩
 go_wp2_with fail
 refine (HD.out _).mono ?_; rintro e w' ⟨rfl, rfl⟩
 go_wp2_with fail
 exact bodyPost_ret (v := .tuple #[.int .u32 r, .bool true, .int .i64 0]) (by simp [results, Tryz.results153, go_sem]) rfl ⟨rfl, rfl⟩
set_option maxRecDepth 100000 in
theorem w1Breaks_add (n a b : Int) (w : World) (h : isNum n = true) (ha : isW a) (hb : isW b) (ma : a ≤ mxI n) (mb : b ≤ mxI n) :
  Calls Tryz.prog 154 #[.int .i64 1, .int .i64 0, .int .i64 n, .int .u32 a, .int .u32 b] w fun e w' => e = .returned (.tuple #[.bool false, .int .i64 0]) ∧ w' = w := by
 have HT := Lib.hid (fun u => w1two_ok n a b u h ha hb ma mb); have HD := Lib.hid (fun u => w1do_add n a b u h ha hb)
 obtain ⟨h1, h2⟩ := isNum_iff.1 h
 have HSa := Lib.hid (fun u => w1Sign_any n a u h1 h2 ha); have HSb := Lib.hid (fun u => w1Sign_any n b u h1 h2 hb)
 have HZ := Lib.hid (fun u => w1Size0_any (n - 1) u (by omega) (by omega))
 have hpw := powI_bd (n - 1) (by omega)
 have q : ((0 : Int) != 0) = false := rfl
 clear h ha hb ma mb
 generalize (a + b) % 2 ^ n.toNat = r at *
 generalize (2 : Int) ^ (n - 1).toNat = H at *
 generalize sgnI n a = x at *
 generalize sgnI n b = y at *
 go_enter Tryz.func154, Tryz.ntmps154
 go_wp2_with fail
 refine (HT.out _).mono ?_; rintro e w' ⟨rfl, rfl⟩
 go_wp2_with fail
 refine (HD.out _).mono ?_; rintro e w' ⟨rfl, rfl⟩
 go_wp2_with fail
 refine (HSa.out _).mono ?_; rintro e w' ⟨rfl, rfl⟩
 go_wp2_with fail
 refine (HSb.out _).mono ?_; rintro e w' ⟨rfl, rfl⟩
 go_wp2_with fail
 refine (HZ.out _).mono ?_; rintro e w' ⟨rfl, rfl⟩
 go_wp2_with fail
 refine (HZ.out _).mono ?_; rintro e w' ⟨rfl, rfl⟩
 go_wp2_with fail
 go_ret2
 exact ⟨rfl, rfl⟩
end Go.Proofs.YtbbbflnnbbaamaaGreatDoor.PK
namespace Go.Proofs.YtbbbflnnbbaamaaGreatDoor.PK
open Go.RowKit

abbrev valV (a : Int) : Value := .agg #[.bool false, .int .i64 0, .int .u32 a]
set_option maxRecDepth 100000 in
theorem results_v {fn : Func} {p : Tmp} (h : fn.results = #[.cell p 47]) (tmps : Array Value) (w : World) (g : Nat) (x0 x1 x2 : Value) (hp : tmps.getD p undef = .pointer (some ⟨g, 0, none⟩))
  (c0 : w.cell? ⟨g, 0, none⟩ = some x0) (c1 : w.cell? ⟨g, 1, none⟩ = some x1) (c2 : w.cell? ⟨g, 2, none⟩ = some x2) :
  (results fn tmps).run Tryz.prog w = .ok (.agg #[x0, x1, x2]) w := by
 have hp' : tmps[p]?.getD undef = .pointer (some ⟨g, 0, none⟩) := by simpa using hp
 simp [results, h, hp', asAddr, loadVar, c0, c1, c2, go_sem]
set_option maxRecDepth 100000 in
theorem results_vb {fn : Func} {p t : Tmp} (h : fn.results = #[.cell p 47, .tmp t]) (tmps : Array Value) (w : World) (g : Nat) (x0 x1 x2 : Value) (hp : tmps.getD p undef = .pointer (some ⟨g, 0, none⟩))
  (c0 : w.cell? ⟨g, 0, none⟩ = some x0) (c1 : w.cell? ⟨g, 1, none⟩ = some x1) (c2 : w.cell? ⟨g, 2, none⟩ = some x2) :
  (results fn tmps).run Tryz.prog w = .ok (.tuple #[.agg #[x0, x1, x2], tmps.getD t undef]) w := by
 have hp' : tmps[p]?.getD undef = .pointer (some ⟨g, 0, none⟩) := by simpa using hp
 simp [results, h, hp', asAddr, loadVar, c0, c1, c2, go_sem]
def three (w : World) (p : Nat) (a : Int) : World := ((w.setCell ⟨p, 0, none⟩ (.bool false)).setCell ⟨p, 1, none⟩ (.int .i64 0)).setCell ⟨p, 2, none⟩ (.int .u32 a)
theorem three_row {w : World} {p : Nat} {y0 y1 y2 : Value} (a : Int) (h : w.heap[p]? = some (.cells #[y0, y1, y2] 47 (0, 0))) : (three w p a).heap[p]? = some (.cells #[.bool false, .int .i64 0, .int .u32 a] 47 (0, 0)) :=
 heap_setCell_same _ p 2 _ _ _ (heap_setCell_same _ p 1 _ _ _ (heap_setCell_same _ p 0 _ _ _ h))
theorem three_save (w : World) (p : Nat) (a : Int) : Save p w (three w p a) := ((Save.set p 0 w _).trans (Save.set p 1 _ _)).trans (Save.set p 2 _ _)
theorem leave_v {fn : Func} {p : Tmp} (h : fn.results = #[.cell p 47]) (tmps : Array Value) (w : World) (g : Nat) (hp : tmps.getD p undef = .pointer (some ⟨g, 0, none⟩)) {y0 y1 y2 : Value} (a : Int) (hr : w.heap[g]? = some (.cells #[y0, y1, y2] 47 (0, 0))) :
  (results fn tmps).run Tryz.prog (three w g a) = .ok (valV a) (three w g a) :=
 results_v h tmps _ g _ _ _ hp (cell_of_row _ _ 0 _ _ _ (three_row a hr)) (cell_of_row _ _ 1 _ _ _ (three_row a hr)) (cell_of_row _ _ 2 _ _ _ (three_row a hr))
theorem leave_vb {fn : Func} {p t : Tmp} (h : fn.results = #[.cell p 47, .tmp t]) (tmps : Array Value) (w : World) (g : Nat) (hp : tmps.getD p undef = .pointer (some ⟨g, 0, none⟩)) {y0 y1 y2 : Value} (a : Int) (hr : w.heap[g]? = some (.cells #[y0, y1, y2] 47 (0, 0))) :
  (results fn tmps).run Tryz.prog (three w g a) = .ok (.tuple #[valV a, tmps.getD t undef]) (three w g a) :=
 results_vb h tmps _ g _ _ _ hp (cell_of_row _ _ 0 _ _ _ (three_row a hr)) (cell_of_row _ _ 1 _ _ _ (three_row a hr)) (cell_of_row _ _ 2 _ _ _ (three_row a hr))
theorem wDivides_no (op : Int) (w : World) (h : op < 4 ∨ 7 < op) : Calls Tryz.prog 151 #[.int .i64 op] w fun e w' => e = .returned (.bool false) ∧ w' = w := by
 by_cases h4 : 4 ≤ op
 ·have h7 : 7 < op := by omega
  go_enter Tryz.func151, Tryz.ntmps151
  go_wp2_with fail
  go_ret
  exact ⟨congrArg Ending.returned (congrArg Value.bool (decide_eq_false (by omega))), rfl⟩
 ·go_enter Tryz.func151, Tryz.ntmps151
  go_wp2_with fail
  go_ret
  exact ⟨rfl, rfl⟩
set_option maxRecDepth 100000 in
theorem wBroken_no (x : Ins) (aa ta : Option Addr) (ca ct : Nat) (a b : Int) (w : World) (h : x.op < 4 ∨ 7 < x.op) :
  Calls Tryz.prog 130 #[insV x aa ta ca ct, valV a, valV b] w fun e w' => e = .returned (.bool false) ∧ Below w.heap.size w w' := by
 have HD := Lib.hid (fun u => wDivides_no x.op u h)
 simp only [insV, valV]
 go_enter Tryz.func130, Tryz.ntmps130
 go_wp2_with fail
 refine (HD.out _).mono ?_; rintro e w' ⟨rfl, rfl⟩
 go_wp2_with fail
 go_ret
 exact ⟨rfl, ((((Below.refl _ _).alloc (Nat.le_refl _) _).alloc (by simp) _).alloc (by simp; omega) _)⟩
set_option maxRecDepth 100000 in
set_option maxHeartbeats 2000000 in
theorem wSimple_cmp (q : Nat) (x : Ins) (aa ta : Option Addr) (ca ct : Nat) (n a b : Int) (la ka : Option Addr) (lc kc kn : Nat) (w : World) (ho : x.op = 14) (hp : x.im ≤ 9) (hn : isNum n = true) (ha : isW a) (hb : isW b) (ma : a ≤ mxI n) (mb : b ≤ mxI n)
  (hv : ValsIn w la [a, b]) (kb ko : Nat) (hk : ka = some ⟨kb, ko, none⟩) (hk0 : w.cell? ⟨kb, ko, none⟩ = some (.int .i64 n)) (hkn : 0 < kn) :
  Calls Tryz.prog 131 #[.pointer (some ⟨q, 0, none⟩), insV x aa ta ca ct, .slice la 2 lc, .slice ka kn kc] w fun e w' => e = .returned (valV (if cmpW x.im n a b then 1 else 0)) ∧ Below w.heap.size w w' := by
 obtain ⟨op, wd, fl, ar, im, tt⟩ := x
 simp only at ho hp ⊢
 subst ho
 have hal : Below w.heap.size w ((w.alloc (.cells #[.int .i64 14, .int .i64 wd, .int .i64 fl, .slice aa ar.length ca, .int .u32 im, .slice ta tt.length ct] 63)).alloc (.cells #[.bool false, .int .i64 0, .int .u32 0] 47)) := ((Below.refl _ _).alloc (Nat.le_refl _) _).alloc (by simp) _
 obtain ⟨vb, vo, rfl, _, _, v0⟩ := hv 0 (by simp)
 obtain ⟨vb', vo', e, _, _, v1⟩ := hv 1 (by simp)
 simp only [Option.some.injEq, Addr.mk.injEq, and_true] at e
 obtain ⟨rfl, rfl⟩ := e
 subst hk
 have HC := Lib.hid (fun u => w1Compare_ok im n a b u (by omega) (by omega) hn ha hb ma mb)
 have v0 := keep v0 hal; have v1 := keep v1 hal; have k0 := keep hk0 hal
 simp only [List.getD_cons_zero, List.getD_cons_succ, Nat.zero_mul, Nat.add_zero, Nat.one_mul] at v0 v1
 have hki : (0 : Int) < (kn : Int) := by omega
 have h9 : (im : Int) ≤ 9 := by omega
 have HB := Lib.hid hal
 generalize cmpW im n a b = r at *
 clear hal hv hk0 hn ha hb ma mb
 simp only [insV, valV]
 go_enter Tryz.func131, Tryz.ntmps131
 go_upto_region 8 with fail
 have x4 : ((w.alloc (.cells #[.int .i64 14, .int .i64 wd, .int .i64 fl, .slice aa ar.length ca, .int .u32 im, .slice ta tt.length ct] 63)).alloc (.cells #[.bool false, .int .i64 0, .int .u32 0] 47)).cell? ⟨w.heap.size, 4, none⟩ = some (.int .u32 (im : Nat)) := by simp [go_sem]
 have hr2 : ((w.alloc (.cells #[.int .i64 14, .int .i64 wd, .int .i64 fl, .slice aa ar.length ca, .int .u32 im, .slice ta tt.length ct] 63)).alloc (.cells #[.bool false, .int .i64 0, .int .u32 0] 47)).heap[w.heap.size + 1]? = some (.cells #[.bool false, .int .i64 0, .int .u32 0] 47 (0, 0)) := by
  have := heap_alloc_new (w.alloc (.cells #[.int .i64 14, .int .i64 wd, .int .i64 fl, .slice aa ar.length ca, .int .u32 im, .slice ta tt.length ct] 63)) (.cells #[.bool false, .int .i64 0, .int .u32 0] 47)
  simpa using this
 have HR2 := Lib.hid hr2
 clear hr2
 generalize ((w.alloc _).alloc _) = w2 at *
 generalize hp1 : w.heap.size + 1 = p1 at *
 have HLe : Hid (w.heap.size ≤ p1) := Lib.hid (by omega)
 clear hp1
 go_quiet ((go_at_call 155; refine Calls.quiet_of_same (HC.out _)))
 have HB3 : Hid (Below w.heap.size w (w2.drewN nq)) := Lib.hid (below_drewN HB.out nq)
 have HR3 : Hid ((w2.drewN nq).heap[p1]? = some (.cells #[.bool false, .int .i64 0, .int .u32 0] 47 (0, 0))) := Lib.hid HR2.out
 clear x4 v0 v1 k0
 generalize w2.drewN nq = w3 at *
 have c0 := cell_of_row _ _ 0 _ _ _ HR3.out; have c1 := cell_of_row _ _ 1 _ _ _ HR3.out; have c2 := cell_of_row _ _ 2 _ _ _ HR3.out
 have fz := fun j => frozen_of_row w3 p1 j _ _ HR3.out
 cases r
 ·go_wp2_with fail
  refine bodyPost_ret (leave_v Tryz.results131 _ w3 p1 rfl 0 HR3.out) rfl ?_
  exact ⟨rfl, HB3.out.trans ((three_save w3 p1 0).below HLe.out HB3.out.size)⟩
 ·go_wp2_with fail
  refine bodyPost_ret (leave_v Tryz.results131 _ w3 p1 rfl 1 HR3.out) rfl ?_
  exact ⟨rfl, HB3.out.trans ((three_save w3 p1 1).below HLe.out HB3.out.size)⟩
set_option maxRecDepth 100000 in
set_option maxHeartbeats 2000000 in
theorem wSimple_add (q : Nat) (x : Ins) (aa ta : Option Addr) (ca ct : Nat) (a b : Int) (la ka : Option Addr) (lc kc kn : Nat) (w : World) (ho : x.op = 1) (hf : x.fl = 0) (hn : isNum x.wd = true) (ha : isW a) (hb : isW b) (ma : a ≤ mxI x.wd) (mb : b ≤ mxI x.wd)
  (hv : ValsIn w la [a, b]) :
  Calls Tryz.prog 131 #[.pointer (some ⟨q, 0, none⟩), insV x aa ta ca ct, .slice la 2 lc, .slice ka kn kc] w fun e w' => e = .returned (valV ((a + b) % 2 ^ x.wd.toNat)) ∧ Below w.heap.size w w' := by
 obtain ⟨op, wd, fl, ar, im, tt⟩ := x
 simp only at ho hf hn ma mb ⊢
 subst ho
 subst hf
 have hal : Below w.heap.size w ((w.alloc (.cells #[.int .i64 1, .int .i64 wd, .int .i64 0, .slice aa ar.length ca, .int .u32 im, .slice ta tt.length ct] 63)).alloc (.cells #[.bool false, .int .i64 0, .int .u32 0] 47)) := ((Below.refl _ _).alloc (Nat.le_refl _) _).alloc (by simp) _
 obtain ⟨vb, vo, rfl, _, _, v0⟩ := hv 0 (by simp)
 obtain ⟨vb', vo', e, _, _, v1⟩ := hv 1 (by simp)
 simp only [Option.some.injEq, Addr.mk.injEq, and_true] at e
 obtain ⟨rfl, rfl⟩ := e
 have HC := Lib.hid (fun u => w1Do_add wd a b u hn ha hb ma mb); have HD := Lib.hid (fun u => w1Breaks_add wd a b u hn ha hb ma mb)
 have v0 := keep v0 hal; have v1 := keep v1 hal
 simp only [List.getD_cons_zero, List.getD_cons_succ, Nat.zero_mul, Nat.add_zero, Nat.one_mul] at v0 v1
 have HB := Lib.hid hal
 generalize (a + b) % 2 ^ wd.toNat = r at *
 clear hal hv hn ha hb ma mb
 simp only [insV, valV]
 go_enter Tryz.func131, Tryz.ntmps131
 go_upto_region 2 with fail
 have x0 : ((w.alloc (.cells #[.int .i64 1, .int .i64 wd, .int .i64 0, .slice aa ar.length ca, .int .u32 im, .slice ta tt.length ct] 63)).alloc (.cells #[.bool false, .int .i64 0, .int .u32 0] 47)).cell? ⟨w.heap.size, 0, none⟩ = some (.int .i64 1) := by simp [go_sem]
 have x1 : ((w.alloc (.cells #[.int .i64 1, .int .i64 wd, .int .i64 0, .slice aa ar.length ca, .int .u32 im, .slice ta tt.length ct] 63)).alloc (.cells #[.bool false, .int .i64 0, .int .u32 0] 47)).cell? ⟨w.heap.size, 1, none⟩ = some (.int .i64 wd) := by simp [go_sem]
 have x2 : ((w.alloc (.cells #[.int .i64 1, .int .i64 wd, .int .i64 0, .slice aa ar.length ca, .int .u32 im, .slice ta tt.length ct] 63)).alloc (.cells #[.bool false, .int .i64 0, .int .u32 0] 47)).cell? ⟨w.heap.size, 2, none⟩ = some (.int .i64 0) := by simp [go_sem]
 have hr2 : ((w.alloc (.cells #[.int .i64 1, .int .i64 wd, .int .i64 0, .slice aa ar.length ca, .int .u32 im, .slice ta tt.length ct] 63)).alloc (.cells #[.bool false, .int .i64 0, .int .u32 0] 47)).heap[w.heap.size + 1]? = some (.cells #[.bool false, .int .i64 0, .int .u32 0] 47 (0, 0)) := by
  have := heap_alloc_new (w.alloc (.cells #[.int .i64 1, .int .i64 wd, .int .i64 0, .slice aa ar.length ca, .int .u32 im, .slice ta tt.length ct] 63)) (.cells #[.bool false, .int .i64 0, .int .u32 0] 47)
  simpa using this
 have HR2 := Lib.hid hr2
 clear hr2
 generalize ((w.alloc _).alloc _) = w2 at *
 generalize hp1 : w.heap.size + 1 = p1 at *
 have HLe : Hid (w.heap.size ≤ p1) := Lib.hid (by omega)
 clear hp1
 go_quiet ((go_at_call 153; refine Calls.quiet_of_same (HC.out _)))
 have HB3 : Hid (Below w.heap.size w (w2.drewN nq)) := Lib.hid (below_drewN HB.out nq)
 have HR3 : Hid ((w2.drewN nq).heap[p1]? = some (.cells #[.bool false, .int .i64 0, .int .u32 0] 47 (0, 0))) := Lib.hid HR2.out
 have hk3 : ∀ b o v, w2.cell? ⟨b, o, none⟩ = some v → (w2.drewN nq).cell? ⟨b, o, none⟩ = some v := fun _ _ _ h => h
 have y0 := hk3 _ _ _ x0; have y1 := hk3 _ _ _ x1; have y2 := hk3 _ _ _ x2; have z0 := hk3 _ _ _ v0; have z1 := hk3 _ _ _ v1
 clear x0 x1 x2 v0 v1 hk3
 generalize w2.drewN nq = w3 at *
 go_upto_region 3 with fail
 go_quiet ((go_at_call 154; refine Calls.quiet_of_same (HD.out _)))
 have HB4 : Hid (Below w.heap.size w (w3.drewN nq)) := Lib.hid (below_drewN HB3.out nq)
 have HR4 : Hid ((w3.drewN nq).heap[p1]? = some (.cells #[.bool false, .int .i64 0, .int .u32 0] 47 (0, 0))) := Lib.hid HR3.out
 clear y0 y1 y2 z0 z1
 generalize w3.drewN nq = w4 at *
 have c0 := cell_of_row _ _ 0 _ _ _ HR4.out; have c1 := cell_of_row _ _ 1 _ _ _ HR4.out; have c2 := cell_of_row _ _ 2 _ _ _ HR4.out
 have fz := fun j => frozen_of_row w4 p1 j _ _ HR4.out
 go_wp2_with fail
 refine bodyPost_ret (leave_v Tryz.results131 _ w4 p1 rfl r HR4.out) rfl ?_
 exact ⟨rfl, HB4.out.trans ((three_save w4 p1 r).below HLe.out HB4.out.size)⟩
end Go.Proofs.YtbbbflnnbbaamaaGreatDoor.PK
