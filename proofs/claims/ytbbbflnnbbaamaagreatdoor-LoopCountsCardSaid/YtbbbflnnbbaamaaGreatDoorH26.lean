/- Packed of several texts. -/
import Derived.Test.YtbbbflnnbbaamaaGreatDoorH23
import Derived.Test.YtbbbflnnbbaamaaGreatDoorH24
import Derived.Test.YtbbbflnnbbaamaaGreatDoorH25
import Derived.Test.YtbbbflnnbbaamaaGreatDoorH11
import Derived.Deep.Cut
import Derived.Outline
import Derived.Test.YtbbbflnnbbaamaaGreatDoorH12
import Derived.Test.YtbbbflnnbbaamaaGreatDoorH21
import Derived.Test.YtbbbflnnbbaamaaGreatDoorH22
import Derived.Test.YtbbbflnnbbaamaaGreatDoorH14
import Derived.StillTailTactics
import Derived.Deep.CutRange
namespace Go.Proofs.YtbbbflnnbbaamaaGreatDoor.PK
open Go.RowKit

theorem shapeOf_any (F : Fun) (A : FunA) (x : Ins) (aa ta : Option Addr) (ca ct : Nat) (w : World) (ha : IntsIn w aa x.ar) (ht : IntsIn w ta x.tt) (him : x.im < 4294967296) (hsl : F.sl.length ≤ 1000) :
  Calls Tryz.prog 103 #[funV F A, insV x aa ta ca ct] w (ShapePost F x w) := by
 have hc := clsI_lo x.op
 have h : clsI x.op = 0 ∨ clsI x.op = 1 ∨ clsI x.op = 2 ∨ clsI x.op = 3 ∨ clsI x.op = 4 ∨ clsI x.op = 5 ∨ clsI x.op = 6 ∨ clsI x.op = 7 ∨ clsI x.op = 8 ∨ clsI x.op = 9 ∨ clsI x.op = 10 ∨ clsI x.op = 11 ∨ clsI x.op = 12 ∨ clsI x.op = 13 ∨ clsI x.op = 14 ∨ clsI x.op = 15 ∨ clsI x.op = 16 ∨ clsI x.op = 17 ∨ clsI x.op = 18 := by omega
 rcases h with h | h | h | h | h | h | h | h | h | h | h | h | h | h | h | h | h | h | h
 ·exact shape0 F A x aa ta ca ct w ha ht h
 ·exact shape1 F A x aa ta ca ct w ha ht h
 ·exact shape2 F A x aa ta ca ct w ha ht h
 ·exact shape3 F A x aa ta ca ct w ha ht h
 ·exact shape4 F A x aa ta ca ct w ha ht h
 ·exact shape5 F A x aa ta ca ct w ha ht h
 ·exact shape6 F A x aa ta ca ct w ha ht h
 ·exact shape7 F A x aa ta ca ct w ha ht h
 ·exact shape8 F A x aa ta ca ct w ha ht h
 ·exact shape9 F A x aa ta ca ct w ha ht h
 ·exact shape10 F A x aa ta ca ct w ha ht him hsl h
 ·exact shape11 F A x aa ta ca ct w ha ht h
 ·exact shape12 F A x aa ta ca ct w ha ht h
 ·exact shape13 F A x aa ta ca ct w ha ht h
 ·exact shape14 F A x aa ta ca ct w ha ht h
 ·exact shape15 F A x aa ta ca ct w ha ht h
 ·exact shape16 F A x aa ta ca ct w ha ht h
 ·exact shape17 F A x aa ta ca ct w ha ht h
 ·exact shape18 F A x aa ta ca ct w ha ht h
end Go.Proofs.YtbbbflnnbbaamaaGreatDoor.PK
namespace Go.Proofs.YtbbbflnnbbaamaaGreatDoor.PK
open Go.RowKit

def IdxI (l : List Int) (p : Int → Bool) (r : Int) : Prop := (r = -1 ∧ ∀ j, j < l.length → p (l.getD j 0) = false) ∨ (∃ k : Nat, k < l.length ∧ r = (k : Int) ∧ p (l.getD k 0) = true)
theorem IdxI.any {l : List Int} {p : Int → Bool} {r : Int} (h : IdxI l p r) : decide (0 ≤ r) = l.any p := by
 rcases h with ⟨rfl, h⟩ | ⟨k, hk, rfl, h⟩
 ·have : l.any p = false := by
   rw [List.any_eq_false]
   intro x hx
   obtain ⟨j, hj, rfl⟩ := List.mem_iff_getElem.1 hx
   have := h j hj
   rw [List.getD_eq_getElem?_getD, List.getElem?_eq_getElem hj] at this
   rw [Bool.not_eq_true]; exact this
  rw [this]; rfl
 ·have : l.any p = true := by
   rw [List.any_eq_true]
   refine ⟨l.getD k 0, ?_, h⟩
   rw [List.getD_eq_getElem?_getD, List.getElem?_eq_getElem hk]
   exact List.getElem_mem hk
  rw [this]; simp
def IdxIPost (l : List Int) (p : Int → Bool) (w : World) (e : Ending) (w' : World) : Prop := ∃ r : Int, e = .returned (.int .i64 r) ∧ IdxI l p r ∧ Below w.heap.size w w'
set_option maxHeartbeats 1000000 in
theorem idxI_any (g : Nat) (lb : Array Value) (eg : ∀ args w, (callFunc g args).run Tryz.prog w = .ok (.enter g args) w) (p : Int → Bool) (l : List Int) (a : Option Addr) (cap : Nat) (w : World) (hin : IntsIn w a l) (hl : (l.length : Int) ≤ 1099511627776)
  (hp : ∀ k W, k < l.length → Below w.heap.size w W → Calls Tryz.prog g (#[.int .i64 (l.getD k 0)] ++ lb) W fun e W' => e = .returned (.bool (p (l.getD k 0))) ∧ Below W.heap.size W W') :
  Calls Tryz.prog 123 #[.slice a l.length cap, .func (.func g) #[] lb] w (IdxIPost l p w) := by
 have HI := Lib.hid hin; have HP := Lib.hid hp
 clear hin hp
 go_enter Tryz.func123, Tryz.ntmps123
 go_wp2_with fail
 go_loopw [8] (fun i wr => ∃ k : Nat, k ≤ l.length ∧ i = .int .i64 k ∧ (∀ j, j < k → p (l.getD j 0) = false) ∧ Below w.heap.size w wr) (fun i _ => l.length - (intOf i).toNat)
 case atStart => exact ⟨0, Nat.zero_le _, rfl, fun j hj => absurd hj (Nat.not_lt_zero _), Below.refl _ _⟩
 case round =>
  obtain ⟨k, hk, rfl, hny, hb⟩ := hrel
  have HB := Lib.hid hb; have HN := Lib.hid hny; clear hny
  by_cases hlt : k < l.length
  ·obtain ⟨b, off, rfl, hc⟩ := HI.out.below hb k hlt
   have HC := Lib.hid (HP.out k wr hlt hb)
   clear hb
   generalize hx : l.getD k 0 = x at *
   have HX := Lib.hid hx; clear hx
   cases hpx : p x
   ·rw [hpx] at HC
    have HPX := Lib.hid hpx; clear hpx
    go_wp2_with (first | (go_at_fn g; refine HC.out.mono ?_; rintro e w2 ⟨rfl, hb2⟩))
    go_roundw
    case rel => exact ⟨k + 1, by omega, by go_num, fun j hj => by
     by_cases e : j = k
     ·rw [e, HX.out]; exact HPX.out
     ·exact HN.out j (by omega), HB.out.trans (hb2.mono HB.out.size)⟩
    case measure => simp [intOf]; omega
   ·rw [hpx] at HC
    have HPX := Lib.hid hpx; clear hpx
    go_wp2_with (first | (go_at_fn g; refine HC.out.mono ?_; rintro e w2 ⟨rfl, hb2⟩))
    go_ret
    exact ⟨k, rfl, .inr ⟨k, hlt, rfl, by rw [HX.out]; exact HPX.out⟩, HB.out.trans (hb2.mono HB.out.size)⟩
  ·clear hb
   go_wp2_with fail
   go_ret
   exact ⟨-1, rfl, .inl ⟨rfl, fun j hj => HN.out j (by omega)⟩, HB.out⟩
theorem conI_any (g : Nat) (lb : Array Value) (eg : ∀ args w, (callFunc g args).run Tryz.prog w = .ok (.enter g args) w) (p : Int → Bool) (l : List Int) (a : Option Addr) (cap : Nat) (w : World) (hin : IntsIn w a l) (hl : (l.length : Int) ≤ 1099511627776)
  (hp : ∀ k W, k < l.length → Below w.heap.size w W → Calls Tryz.prog g (#[.int .i64 (l.getD k 0)] ++ lb) W fun e W' => e = .returned (.bool (p (l.getD k 0))) ∧ Below W.heap.size W W') :
  Calls Tryz.prog 77 #[.slice a l.length cap, .func (.func g) #[] lb] w fun e w' => e = .returned (.bool (l.any p)) ∧ Below w.heap.size w w' := by
 have HC := Lib.hid (idxI_any g lb eg p l a cap w hin hl hp)
 clear hin hp eg
 go_enter Tryz.func77, Tryz.ntmps77
 go_wp2_with (first | (go_at_call 123; refine HC.out.mono ?_; rintro e w2 ⟨r, rfl, hr, hb2⟩; have HR := Lib.hid hr.any; clear hr))
 go_ret
 exact ⟨ret_bool HR.out, hb2⟩
end Go.Proofs.YtbbbflnnbbaamaaGreatDoor.PK
namespace Go.Proofs.YtbbbflnnbbaamaaGreatDoor.PK
open Go.RowKit

set_option maxHeartbeats 1000000 in
theorem shapedC_any (F : Fun) (q : Nat) (b : Int) (bl : Option Addr) (cap : Nat) (w : World) (h3 : w.cell? ⟨q, 3, none⟩ = some (.slice bl F.bs.length cap)) :
  Calls Tryz.prog 105 #[.int .i64 b, .pointer (some ⟨q, 0, none⟩)] w fun e w' => e = .returned (.bool (!decide (0 ≤ b ∧ b < F.bs.length))) ∧ Below w.heap.size w w' := by
 by_cases h0 : b < 0
 ·have HR : Hid ((!decide (0 ≤ b ∧ b < F.bs.length)) = true) := Lib.hid (by simp; omega)
  rw [HR.out]
  go_enter Tryz.func105, Tryz.ntmps105
  go_wp2_with fail
  go_ret
  first | exact ⟨rfl, Below.refl _ _⟩ | exact ⟨ret_bool (by simp; omega), Below.refl _ _⟩ | exact ⟨ret_bool (by simp), Below.refl _ _⟩
 ·by_cases h1 : b < (F.bs.length : Int)
  ·have HR : Hid ((!decide (0 ≤ b ∧ b < F.bs.length)) = false) := Lib.hid (by simp; omega)
   rw [HR.out]
   go_enter Tryz.func105, Tryz.ntmps105
   go_wp2_with fail
   go_ret
   first | exact ⟨rfl, Below.refl _ _⟩ | exact ⟨ret_bool (by simp; omega), Below.refl _ _⟩ | exact ⟨ret_bool (by simp), Below.refl _ _⟩
  ·have HR : Hid ((!decide (0 ≤ b ∧ b < F.bs.length)) = true) := Lib.hid (by simp; omega)
   rw [HR.out]
   go_enter Tryz.func105, Tryz.ntmps105
   go_wp2_with fail
   go_ret
   first | exact ⟨rfl, Below.refl _ _⟩ | exact ⟨ret_bool (by simp; omega), Below.refl _ _⟩ | exact ⟨ret_bool (by simp), Below.refl _ _⟩
theorem headP_any (k : Int) (w : World) : Calls Tryz.prog 99 #[.int .i64 k] w fun e w' => e = .returned (.bool (!isNum k)) ∧ Below w.heap.size w w' := by
 have HN := Lib.hid (isNumber_any k)
 generalize isNum k = nb at *
 go_enter Tryz.func99, Tryz.ntmps99
 go_wp2_with (go_at_call 100; refine (HN.out _).mono ?_; rintro e w' ⟨rfl, rfl⟩)
 go_ret
 first | exact ⟨rfl, Below.refl _ _⟩ | exact ⟨ret_bool (by simp; omega), Below.refl _ _⟩ | exact ⟨ret_bool (by simp), Below.refl _ _⟩
theorem headS_any (k : Int) (w : World) : Calls Tryz.prog 101 #[.int .i64 k] w fun e w' => e = .returned (.bool (!decide (1 ≤ k ∧ k ≤ 8))) ∧ Below w.heap.size w w' := by
 by_cases h0 : k < 1
 ·have HR : Hid ((!decide (1 ≤ k ∧ k ≤ 8)) = true) := Lib.hid (by simp; omega)
  rw [HR.out]
  go_enter Tryz.func101, Tryz.ntmps101
  go_wp2_with fail
  go_ret
  first | exact ⟨rfl, Below.refl _ _⟩ | exact ⟨ret_bool (by simp; omega), Below.refl _ _⟩ | exact ⟨ret_bool (by simp), Below.refl _ _⟩
 ·by_cases h1 : k ≤ 8
  ·have HR : Hid ((!decide (1 ≤ k ∧ k ≤ 8)) = false) := Lib.hid (by simp; omega)
   rw [HR.out]
   go_enter Tryz.func101, Tryz.ntmps101
   go_wp2_with fail
   go_ret
   first | exact ⟨rfl, Below.refl _ _⟩ | exact ⟨ret_bool (by simp; omega), Below.refl _ _⟩ | exact ⟨ret_bool (by simp), Below.refl _ _⟩
  ·have HR : Hid ((!decide (1 ≤ k ∧ k ≤ 8)) = true) := Lib.hid (by simp; omega)
   rw [HR.out]
   go_enter Tryz.func101, Tryz.ntmps101
   go_wp2_with fail
   go_ret
   first | exact ⟨rfl, Below.refl _ _⟩ | exact ⟨ret_bool (by simp; omega), Below.refl _ _⟩ | exact ⟨ret_bool (by simp), Below.refl _ _⟩
end Go.Proofs.YtbbbflnnbbaamaaGreatDoor.PK
namespace Go.Proofs.YtbbbflnnbbaamaaGreatDoor.PK
open Go.RowKit

def headB (F : Fun) : Bool := (F.ps.all isNum && decide (0 ≤ F.ret ∧ F.ret ≤ 32)) && F.sl.all fun k => decide (1 ≤ k ∧ k ≤ 8)
theorem hp_enter : ∀ args w, (callFunc 99 args).run Tryz.prog w = .ok (.enter 99 args) w := enters_of Tryz.func99 (by kernel_rfl) rfl
theorem hs_enter : ∀ args w, (callFunc 101 args).run Tryz.prog w = .ok (.enter 101 args) w := enters_of Tryz.func101 (by kernel_rfl) rfl
set_option maxHeartbeats 4000000 in
theorem isHead_any (F : Fun) (A : FunA) (w : World) (hp : IntsIn w A.pa F.ps) (hs : IntsIn w A.sa F.sl) (hpl : (F.ps.length : Int) ≤ 1099511627776) (hsl : (F.sl.length : Int) ≤ 1099511627776) :
  Calls Tryz.prog 65 #[funV F A] w fun e w' => e = .returned (.bool (headB F)) ∧ Below w.heap.size w w' := by
 have HP : Hid (∀ W, Below w.heap.size w W → Calls Tryz.prog 77 #[.slice A.pa F.ps.length A.pc, .func (.func 99) #[] #[]] W fun e w' => e = .returned (.bool (F.ps.any fun k => !isNum k)) ∧ Below W.heap.size W w') := Lib.hid (fun W hb => conI_any 99 #[] hp_enter (fun k => !isNum k) F.ps A.pa A.pc W (hp.below hb) hpl (fun k W' _ _ => headP_any _ W'))
 have HS : Hid (∀ W, Below w.heap.size w W → Calls Tryz.prog 77 #[.slice A.sa F.sl.length A.sc, .func (.func 101) #[] #[]] W fun e w' => e = .returned (.bool (F.sl.any fun k => !decide (1 ≤ k ∧ k ≤ 8))) ∧ Below W.heap.size W w') := Lib.hid (fun W hb => conI_any 101 #[] hs_enter (fun k => !decide (1 ≤ k ∧ k ≤ 8)) F.sl A.sa A.sc W (hs.below hb) hsl (fun k W' _ _ => headS_any _ W'))
 have hH : headB F = ((!(F.ps.any fun k => !isNum k) && decide (0 ≤ F.ret ∧ F.ret ≤ 32)) && !(F.sl.any fun k => !decide (1 ≤ k ∧ k ≤ 8))) := by
  unfold headB
  rw [List.not_any_eq_all_not, List.not_any_eq_all_not]
  simp
 clear hp hs
 generalize (F.ps.any fun k => !isNum k) = pb at *
 generalize (F.sl.any fun k => !decide (1 ≤ k ∧ k ≤ 8)) = sb at *
 generalize headB F = hb at *
 simp only [funV, funC]
 generalize F.ret = r at *
 have HH := Lib.hid hH; clear hH
 go_enter Tryz.func65, Tryz.ntmps65
 go_upto_region 1 with fail
 have HB : Hid (Below w.heap.size w (w.alloc (.cells #[.slice A.pa F.ps.length A.pc, .int .i64 r, .slice A.sa F.sl.length A.sc, .slice A.ba F.bs.length A.bc] 31))) := Lib.hid ((Below.refl _ _).alloc (Nat.le_refl _) _)
 have c0 : (w.alloc (.cells #[.slice A.pa F.ps.length A.pc, .int .i64 r, .slice A.sa F.sl.length A.sc, .slice A.ba F.bs.length A.bc] 31)).cell? ⟨w.heap.size, 0, none⟩ = some (.slice A.pa F.ps.length A.pc) := by simp [go_sem]
 have c1 : (w.alloc (.cells #[.slice A.pa F.ps.length A.pc, .int .i64 r, .slice A.sa F.sl.length A.sc, .slice A.ba F.bs.length A.bc] 31)).cell? ⟨w.heap.size, 1, none⟩ = some (.int .i64 r) := by simp [go_sem]
 have c2 : (w.alloc (.cells #[.slice A.pa F.ps.length A.pc, .int .i64 r, .slice A.sa F.sl.length A.sc, .slice A.ba F.bs.length A.bc] 31)).cell? ⟨w.heap.size, 2, none⟩ = some (.slice A.sa F.sl.length A.sc) := by simp [go_sem]
 generalize (w.alloc (.cells #[.slice A.pa F.ps.length A.pc, .int .i64 r, .slice A.sa F.sl.length A.sc, .slice A.ba F.bs.length A.bc] 31)) = w1 at *
 cases pb
 ·by_cases h0 : r < 0
  ·have HR0 := Lib.hid h0
   obtain rfl : hb = false := by rw [HH.out]; simp; try omega
   go_wp2_with (first | (go_at_call 77; refine (HP.out _ HB.out).mono ?_; rintro e w2 ⟨rfl, hb2⟩; have d0 := keep c0 hb2; have d1 := keep c1 hb2; have d2 := keep c2 hb2; have HB2 := Lib.hid (HB.out.trans (hb2.mono HB.out.size)); clear hb2 HB) | (go_at_call 77; refine (HS.out _ HB2.out).mono ?_; rintro e w3 ⟨rfl, hb3⟩))
   go_ret
   exact ⟨rfl, HB2.out⟩
  ·by_cases h1 : 32 < r
   ·skip
    obtain rfl : hb = false := by rw [HH.out]; simp; try omega
    go_wp2_with (first | (go_at_call 77; refine (HP.out _ HB.out).mono ?_; rintro e w2 ⟨rfl, hb2⟩; have d0 := keep c0 hb2; have d1 := keep c1 hb2; have d2 := keep c2 hb2; have HB2 := Lib.hid (HB.out.trans (hb2.mono HB.out.size)); clear hb2 HB) | (go_at_call 77; refine (HS.out _ HB2.out).mono ?_; rintro e w3 ⟨rfl, hb3⟩))
    go_ret
    exact ⟨rfl, HB2.out⟩
   ·have hr : decide (0 ≤ r ∧ r ≤ 32) = true := by simp; omega
    rw [hr] at HH; clear hr
    cases sb
    ·skip
     obtain rfl : hb = true := by rw [HH.out]; simp; try omega
     go_wp2_with (first | (go_at_call 77; refine (HP.out _ HB.out).mono ?_; rintro e w2 ⟨rfl, hb2⟩; have d0 := keep c0 hb2; have d1 := keep c1 hb2; have d2 := keep c2 hb2; have HB2 := Lib.hid (HB.out.trans (hb2.mono HB.out.size)); clear hb2 HB) | (go_at_call 77; refine (HS.out _ HB2.out).mono ?_; rintro e w3 ⟨rfl, hb3⟩))
     go_ret
     exact ⟨rfl, HB2.out.trans (hb3.mono HB2.out.size)⟩
    ·skip
     obtain rfl : hb = false := by rw [HH.out]; simp; try omega
     go_wp2_with (first | (go_at_call 77; refine (HP.out _ HB.out).mono ?_; rintro e w2 ⟨rfl, hb2⟩; have d0 := keep c0 hb2; have d1 := keep c1 hb2; have d2 := keep c2 hb2; have HB2 := Lib.hid (HB.out.trans (hb2.mono HB.out.size)); clear hb2 HB) | (go_at_call 77; refine (HS.out _ HB2.out).mono ?_; rintro e w3 ⟨rfl, hb3⟩))
     go_ret
     exact ⟨rfl, HB2.out.trans (hb3.mono HB2.out.size)⟩
 ·skip
  obtain rfl : hb = false := by rw [HH.out]; simp; try omega
  go_wp2_with (first | (go_at_call 77; refine (HP.out _ HB.out).mono ?_; rintro e w2 ⟨rfl, hb2⟩; have d0 := keep c0 hb2; have d1 := keep c1 hb2; have d2 := keep c2 hb2; have HB2 := Lib.hid (HB.out.trans (hb2.mono HB.out.size)); clear hb2 HB) | (go_at_call 77; refine (HS.out _ HB2.out).mono ?_; rintro e w3 ⟨rfl, hb3⟩))
  go_ret
  exact ⟨rfl, HB2.out⟩
end Go.Proofs.YtbbbflnnbbaamaaGreatDoor.PK
namespace Go.Proofs.YtbbbflnnbbaamaaGreatDoor.PK

abbrev insA (F : Fun) (b i : Nat) : Ins := atI (atBk F.bs b) i
structure FunOk (F : Fun) : Prop where
 sm : FunSm F
 im : ∀ b i, b < F.bs.length → i < (atBk F.bs b).length → (insA F b i).im < 4294967296
 fl : ∀ b i, b < F.bs.length → i < (atBk F.bs b).length → -9223372036854775808 ≤ (insA F b i).fl ∧ (insA F b i).fl < 9223372036854775808
def lrgB (F : Fun) : Bool := decide (3 < F.ps.length) || (decide (2 < F.sl.length) || (decide (F.bs.length < 1) || (decide (10 < F.bs.length) || decide (40 < sumI F.bs F.bs.length))))
def shpP (F : Fun) : Prop := ∀ b i, b < F.bs.length → i < (atBk F.bs b).length → shapeB F (insA F b i) = true
def typP (F : Fun) : Prop := ∀ b i, b < F.bs.length → i < (atBk F.bs b).length → rtyB (insA F b i).op (insA F b i).wd F.ret (ksI (kdsI F) (insA F b i)) = true
open Classical in
noncomputable def errF (F : Fun) : Int :=
 if lrgB F = true then 3 else if headB F = false then 1 else if ¬ shpP F then 1 else if ¬ laidP F then 7 else if ¬ typP F then 6 else if ¬ statedP F then 9 else 0
theorem errF_lrg {F : Fun} (h : lrgB F = true) : errF F = 3 := if_pos h
theorem errF_head {F : Fun} (h1 : lrgB F = false) (h : headB F = false) : errF F = 1 := by
 unfold errF; rw [if_neg (by rw [h1]; decide), if_pos h]
theorem errF_shp {F : Fun} (h1 : lrgB F = false) (h2 : headB F = true) (h : ¬ shpP F) : errF F = 1 := by
 unfold errF; rw [if_neg (by rw [h1]; decide), if_neg (by rw [h2]; decide), if_pos h]
theorem errF_laid {F : Fun} (h1 : lrgB F = false) (h2 : headB F = true) (h3 : shpP F) (h : ¬ laidP F) : errF F = 7 := by
 unfold errF; rw [if_neg (by rw [h1]; decide), if_neg (by rw [h2]; decide), if_neg (not_not_intro h3), if_pos h]
theorem errF_typ {F : Fun} (h1 : lrgB F = false) (h2 : headB F = true) (h3 : shpP F) (h4 : laidP F) (h : ¬ typP F) : errF F = 6 := by
 unfold errF; rw [if_neg (by rw [h1]; decide), if_neg (by rw [h2]; decide), if_neg (not_not_intro h3), if_neg (not_not_intro h4), if_pos h]
theorem errF_st {F : Fun} (h1 : lrgB F = false) (h2 : headB F = true) (h3 : shpP F) (h4 : laidP F) (h5 : typP F) (h : ¬ statedP F) : errF F = 9 := by
 unfold errF; rw [if_neg (by rw [h1]; decide), if_neg (by rw [h2]; decide), if_neg (not_not_intro h3), if_neg (not_not_intro h4), if_neg (not_not_intro h5), if_pos h]
theorem errF_ok {F : Fun} (h1 : lrgB F = false) (h2 : headB F = true) (h3 : shpP F) (h4 : laidP F) (h5 : typP F) (h : statedP F) : errF F = 0 := by
 unfold errF; rw [if_neg (by rw [h1]; decide), if_neg (by rw [h2]; decide), if_neg (not_not_intro h3), if_neg (not_not_intro h4), if_neg (not_not_intro h5), if_neg (not_not_intro h)]
structure GoodF (F : Fun) : Prop where
 lrg : lrgB F = false
 head : headB F = true
 shp : shpP F
 laid : laidP F
 typ : typP F
 st : statedP F
theorem errF_good {F : Fun} (h : errF F = 0) : GoodF F := by
 by_cases h1 : lrgB F = true
 ·rw [errF_lrg h1] at h; cases h
 replace h1 : lrgB F = false := by simpa using h1
 by_cases h2 : headB F = false
 ·rw [errF_head h1 h2] at h; cases h
 replace h2 : headB F = true := by simpa using h2
 by_cases h3 : shpP F
 rotate_left
 ·rw [errF_shp h1 h2 h3] at h; cases h
 by_cases h4 : laidP F
 rotate_left
 ·rw [errF_laid h1 h2 h3 h4] at h; cases h
 by_cases h5 : typP F
 rotate_left
 ·rw [errF_typ h1 h2 h3 h4 h5] at h; cases h
 by_cases h6 : statedP F
 ·exact ⟨h1, h2, h3, h4, h5, h6⟩
 ·rw [errF_st h1 h2 h3 h4 h5 h6] at h; cases h
theorem shape_tos {F : Fun} {x : Ins} (h : shapeB F x = true) : (x.tt.length : Int) = tosI x ∧ (x.ar.length : Int) = argsI F.ret x ∧ ∀ y, y ∈ x.tt → 0 ≤ y ∧ y < (F.bs.length : Int) := by
 unfold shapeB at h
 simp only [Bool.and_eq_true, decide_eq_true_eq, List.all_eq_true] at h
 exact ⟨h.2.2.2.2.1, h.2.2.2.1, h.2.2.2.2.2.2⟩
theorem laid_last {F : Fun} (h : laidP F) {b : Nat} (hb : b < F.bs.length) : isLst (lasI (atBk F.bs b)).op = true := by
 obtain ⟨h1, h2⟩ := h.1 b hb
 have := (h2 ((atBk F.bs b).length - 1) (by omega)).1
 rw [show (((atBk F.bs b).length - 1 : Nat) : Int) = ((atBk F.bs b).length : Int) - 1 by omega, decide_eq_true rfl] at this
 exact this
theorem tos_two {x : Ins} (h : isLst x.op = true) : tosI x ≤ 2 := by
 have h : 29 ≤ x.op ∧ x.op ≤ 32 := by simpa [isLst] using h
 have : x.op = 29 ∨ x.op = 30 ∨ x.op = 31 ∨ x.op = 32 := by omega
 unfold tosI
 rcases this with h | h | h | h <;> rw [h] <;> simp [clsI]
theorem gr_ok {F : Fun} (h1 : 1 ≤ F.bs.length) (h2 : F.bs.length ≤ 10) (hs : shpP F) (hl : laidP F) : GrOk F := by
 have hpos : ∀ b, b < F.bs.length → 0 < (atBk F.bs b).length := fun b hb => (hl.1 b hb).1
 have hlast : ∀ b, b < F.bs.length → ((lasI (atBk F.bs b)).tt.length : Int) = tosI (lasI (atBk F.bs b)) ∧ ∀ y, y ∈ (lasI (atBk F.bs b)).tt → 0 ≤ y ∧ y < (F.bs.length : Int) := fun b hb => by
  have := shape_tos (hs b ((atBk F.bs b).length - 1) hb (by have := hpos b hb; omega))
  exact ⟨this.1, this.2.2⟩
 have hrng : ∀ k x, k < (gI F).length → x ∈ (gI F).getD k [] → 0 ≤ x ∧ x < ((gI F).length : Int) := fun k x hk hx => by
  rw [gI_len] at hk ⊢
  rw [gI_get hk] at hx
  exact (hlast k hk).2 x hx
 refine ⟨hpos, ⟨fun v x hx => ?_, ?_, ?_, fun v => ?_⟩, hrng, fun b i hb hi hop => ?_⟩
 ·have hv := FL.lt_of_succ hx
  rw [FL.gN_len] at hv ⊢
  rw [FL.gN_succ] at hx
  obtain ⟨y, hy, rfl⟩ := List.mem_map.1 hx
  have := hrng v y hv hy
  omega
 ·rw [FL.gN_len, gI_len]; exact h1
 ·rw [FL.gN_len, gI_len]; exact h2
 ·by_cases hv : v < F.bs.length
  ·rw [FL.gN_succ, List.length_map, gI_get hv]
   have := (hlast v hv).1
   have := tos_two (laid_last hl hv)
   omega
  ·rw [FL.succ_out (by rw [FL.gN_len, gI_len]; omega)]; decide
 ·obtain ⟨e1, e2, e3⟩ := shape_tos (hs b i hb hi)
  have ha : argsI F.ret (insA F b i) = ((insA F b i).tt.length : Int) := by
   unfold argsI; rw [hop]; simp [clsI]
  have htl : (insA F b i).tt.length = (insA F b i).ar.length := by omega
  refine ⟨htl, fun k hk => ?_⟩
  refine e3 _ ?_
  rw [List.getD_eq_getElem?_getD, List.getElem?_eq_getElem hk]
  exact List.getElem_mem hk
end Go.Proofs.YtbbbflnnbbaamaaGreatDoor.PK
namespace Go.Proofs.YtbbbflnnbbaamaaGreatDoor.PK
open Go.RowKit

def encV : List Int → List Value
 | [] => []
 | x :: l => .bool false :: .int .i64 0 :: .int .u32 x :: encV l
theorem encV_len : ∀ l : List Int, (encV l).length = l.length * 3
 | [] => rfl
 | x :: l => by
  have := encV_len l
  show (_ :: _ :: _ :: encV l).length = _
  simp only [List.length_cons, this]
  omega
theorem encV_snoc : ∀ (l : List Int) (x : Int), encV (l ++ [x]) = encV l ++ [.bool false, .int .i64 0, .int .u32 x]
 | [], x => rfl
 | y :: l, x => by
  show _ :: _ :: _ :: encV (l ++ [x]) = _
  rw [encV_snoc l x]; rfl
theorem encV_get : ∀ (l : List Int) (k : Nat), k < l.length → (encV l)[k * 3]? = some (.bool false) ∧ (encV l)[k * 3 + 1]? = some (.int .i64 0) ∧ (encV l)[k * 3 + 2]? = some (.int .u32 (l.getD k 0))
 | x :: l, 0, _ => ⟨rfl, rfl, rfl⟩
 | x :: l, k + 1, h => by
  have ih := encV_get l k (by simpa using h)
  have e : ∀ j, (encV (x :: l))[(k + 1) * 3 + j]? = (encV l)[k * 3 + j]? := fun j => by
   show (_ :: _ :: _ :: encV l)[(k + 1) * 3 + j]? = _
   rw [show (k + 1) * 3 + j = k * 3 + j + 1 + 1 + 1 by omega]
   simp only [List.getElem?_cons_succ]
  have e0 := e 0
  simp only [Nat.add_zero] at e0
  rw [e0, e 1, e 2]
  simpa using ih
theorem encV_set : ∀ (l : List Int) (k : Nat) (y : Int), k < l.length → (((encV l).set (k * 3) (.bool false)).set (k * 3 + 1) (.int .i64 0)).set (k * 3 + 2) (.int .u32 y) = encV (l.set k y)
 | x :: l, 0, y, _ => rfl
 | x :: l, k + 1, y, h => by
  have ih := encV_set l k y (by simpa using h)
  show (((_ :: _ :: _ :: encV l).set ((k + 1) * 3) _).set ((k + 1) * 3 + 1) _).set ((k + 1) * 3 + 2) _ = _ :: _ :: _ :: encV (l.set k y)
  rw [show (k + 1) * 3 = k * 3 + 1 + 1 + 1 by omega, show k * 3 + 1 + 1 + 1 + 1 = k * 3 + 1 + 1 + 1 + 1 from rfl, show k * 3 + 1 + 1 + 1 + 2 = k * 3 + 2 + 1 + 1 + 1 by omega, show k * 3 + 1 + 1 + 1 + 1 = (k * 3 + 1) + 1 + 1 + 1 by omega]
  simp only [List.set_cons_succ]
  rw [ih]
def ValsIn (w : World) (a : Option Addr) (l : List Int) : Prop :=
 ∀ k, k < l.length → ∃ b off, a = some ⟨b, off, none⟩ ∧ w.cell? ⟨b, off + k * 3, none⟩ = some (.bool false) ∧ w.cell? ⟨b, off + k * 3 + 1, none⟩ = some (.int .i64 0) ∧ w.cell? ⟨b, off + k * 3 + 2, none⟩ = some (.int .u32 (l.getD k 0))
theorem ValsIn.below {w w' : World} {a : Option Addr} {l : List Int} (h : ValsIn w a l) (hb : Below w.heap.size w w') : ValsIn w' a l := fun k hk => by
 obtain ⟨b, off, rfl, h1, h2, h3⟩ := h k hk
 exact ⟨b, off, rfl, keep h1 hb, keep h2 hb, keep h3 hb⟩
theorem owns_row3 {w : World} {B : Nat} {e : TypeId} {v : Value} {l : List Int} (h : w.ownsRow B e 3 v l.length (encV l)) {k : Nat} (hk : k < l.length) : ∃ g cap, v = .slice (some ⟨g, 0, none⟩) l.length cap ∧ B ≤ g ∧ g < w.heap.size ∧ w.cell? ⟨g, k * 3, none⟩ = some (.bool false) ∧ w.cell? ⟨g, k * 3 + 1, none⟩ = some (.int .i64 0) ∧ w.cell? ⟨g, k * 3 + 2, none⟩ = some (.int .u32 (l.getD k 0)) ∧ ∀ j, w.frozen? ⟨g, j, none⟩ = false := by
 obtain ⟨g, cap, rfl, _, _, hb, hg, hc, hf⟩ := owns_cells h (by omega)
 obtain ⟨e0, e1, e2⟩ := encV_get l k hk
 exact ⟨g, cap, rfl, hb, hg, hc _ _ e0, hc _ _ e1, hc _ _ e2, hf⟩
theorem vals_of_owns {w : World} {B : Nat} {e : TypeId} {v : Value} {l : List Int} (h : w.ownsRow B e 3 v l.length (encV l)) : ∃ a cap, v = .slice a l.length cap ∧ ValsIn w a l := by
 by_cases h0 : l = []
 ·subst h0
  obtain ⟨a, cap, rfl⟩ := owns_shape h
  exact ⟨a, cap, rfl, fun k hk => absurd hk (Nat.not_lt_zero _)⟩
 ·obtain ⟨g, cap, e, _⟩ := owns_row3 h (List.length_pos_iff.2 h0)
  refine ⟨_, cap, e, fun k hk => ?_⟩
  obtain ⟨g', cap', e', _, _, h1, h2, h3, _⟩ := owns_row3 h hk
  rw [e] at e'
  simp only [Value.slice.injEq, Option.some.injEq, Addr.mk.injEq, and_true, true_and] at e'
  obtain ⟨rfl, rfl⟩ := e'
  exact ⟨g, 0, rfl, by rw [Nat.zero_add]; exact h1, by rw [Nat.zero_add]; exact h2, by rw [Nat.zero_add]; exact h3⟩
theorem infoVal : (Tryz.prog.info? 47).map (fun i => (i.zero, i.size, i.bytes)) = some (some (.agg #[.bool false, .int .i64 0, .int .u32 0]), 3, 24) := by kernel_rfl
theorem kdsI_at {F : Fun} {b i : Nat} (hb : b < F.bs.length) (hi : i < (atBk F.bs b).length) : (kdsI F).getD (F.ps.length + (sumI F.bs b + i)) 0 = (insA F b i).wd := by
 have h1 := sumI_mono (ls := F.bs) hb
 rw [kdsI_ins (by omega)]
 show (atI (atBk F.bs (locI F.bs _).1) (locI F.bs _).2).wd = _
 rw [locI_at F.bs b i hb hi]
set_option maxRecDepth 100000 in
theorem wKind_any (F : Fun) (A : FunA) (q a : Nat) (w : World) (hin : FunIn w F A) (hs : FunSm F) (ha : a < (kdsI F).length) (g0 : w.cell? ⟨q, 0, none⟩ = some (.slice A.pa F.ps.length A.pc)) (g3 : w.cell? ⟨q, 3, none⟩ = some (.slice A.ba F.bs.length A.bc)) :
  Calls Tryz.prog 125 #[.pointer (some ⟨q, 0, none⟩), .int .i64 (a : Nat)] w fun e w' => e = .returned (.tuple #[.int .i64 ((kdsI F).getD a 0), .bool true]) ∧ w' = w := by
 obtain ⟨pa, pc, sa, sc, ba, bc⟩ := A
 simp only at g0 g3
 have HI := Lib.hid hin; have HG3 := Lib.hid g3
 rw [kdsI_len] at ha
 have hsp := hs.ps; have hsb := hs.bs
 by_cases hap : a < F.ps.length
 ·obtain ⟨b, off, he, hc⟩ := hin.ps a hap
  obtain rfl : pa = some ⟨b, off, none⟩ := he
  rw [kdsI_par hap]
  have hai : (a : Int) < (F.ps.length : Int) := by omega
  generalize F.ps.getD a 0 = y at *
  clear hin HI
  go_enter Tryz.func125, Tryz.ntmps125
  go_wp2_with fail
  go_ret2
  exact ⟨rfl, rfl⟩
 have hai : ¬ (a : Int) < (F.ps.length : Int) := by omega
 have HSu := Lib.hid hs.sum
 have HIn := Lib.hid hs.ins
 have HSn := Lib.hid (fun k h => sumI_succ (ls := F.bs) (k := k) h)
 have HY : Hid (∀ b i, b < F.bs.length → i < (atBk F.bs b).length → F.ps.length + (sumI F.bs b + i) = a → (kdsI F).getD a 0 = (insA F b i).wd) := Lib.hid fun b i hb hi h => by rw [← h]; exact kdsI_at hb hi
 generalize (kdsI F).getD a 0 = y at *
 have HA := Lib.hid ha
 have hb0 : 0 < F.bs.length := by
  rcases Nat.eq_zero_or_pos F.bs.length with h | h
  ·rw [h] at ha; simp [sumI] at ha; omega
  ·exact h
 clear hin
 go_enter Tryz.func125, Tryz.ntmps125
 go_wp2_with fail
 clear g0 g3
 go_loopw [7, 6] (fun i v wr => ∃ k : Nat, k < F.bs.length ∧ i = .int .i64 k ∧ v = .int .i64 ((F.ps.length + sumI F.bs k : Nat) : Int) ∧ F.ps.length + sumI F.bs k ≤ a ∧ w = wr) (fun i _ _ => F.bs.length - (intOf i).toNat)
 case atStart => exact ⟨0, hb0, rfl, by simp [sumI], by simp [sumI]; omega, rfl⟩
 case round =>
  obtain ⟨k, hk, rfl, rfl, hle, rfl⟩ := hrel
  have hkl : (k : Int) < (F.bs.length : Int) := by omega
  obtain ⟨b, off, a', cap, he, hc, hins⟩ := HI.out.bs k hk
  have hm := HIn.out k hk
  have hsu := HSu.out k (by omega)
  have HSk := Lib.hid (HSn.out k hk)
  have g3 := HG3.out
  obtain rfl : ba = some ⟨b, off, none⟩ := he
  by_cases hlt : a < F.ps.length + sumI F.bs k + (atBk F.bs k).length
  ·obtain ⟨j, hj⟩ : ∃ j, a = F.ps.length + sumI F.bs k + j := ⟨a - (F.ps.length + sumI F.bs k), by omega⟩
   obtain ⟨b2, o2, aa, at', ca, ct, he2, hx⟩ := hins j (by omega)
   have hye : y = (insA F k j).wd := HY.out k j hk (by omega) (by omega)
   have hx1 := hx.c1
   subst he2
   have hjm : j < (atBk F.bs k).length := by omega
   have hjmi : (j : Int) < ((atBk F.bs k).length : Int) := by omega
   have hxe : (atI (atBk F.bs k) j).wd = (insA F k j).wd := rfl
   rw [hxe, ← hye] at hx1
   clear hx hins hxe hye HY HSk
   have hP0 : F.ps.length + sumI F.bs k < 1000000 := by omega
   generalize (atBk F.bs k).length = m at *
   generalize F.ps.length + sumI F.bs k = P at *
   subst hj
   have hP : P + j < 2000000 := by omega
   have h1 : ((P + j : Nat) : Int) < (P : Int) + (m : Int) := by omega
   go_wp2_with fail
   go_ret2
   exact ⟨rfl, rfl⟩
  ·have hnx : k + 1 < F.bs.length := by
    rcases Nat.lt_or_ge (k + 1) F.bs.length with h | h
    ·exact h
    ·have e : F.bs.length = k + 1 := by omega
     have := HA.out
     rw [e, HSk.out] at this; omega
   clear hins
   generalize (atBk F.bs k).length = m at *
   generalize hss : sumI F.bs k = sk at *
   have HSs := Lib.hid hss; clear hss
   have h1 : ¬ (a : Int) < ((F.ps.length + sk : Nat) : Int) + (m : Int) := by omega
   have hp2 : F.ps.length + sk < 1000000 := by omega
   go_wp2_with fail
   go_roundw
   case rel => exact ⟨k + 1, hnx, by go_num, by rw [HSk.out]; simp; omega, by rw [HSk.out]; omega, by trivial⟩
   case measure => simp [intOf]; omega
end Go.Proofs.YtbbbflnnbbaamaaGreatDoor.PK
