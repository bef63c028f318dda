/- The walk of asked and of find. -/
import Derived.Test.YtmhneonebjcieaaAK
namespace Go.Proofs.Ytmhneonebjcieaa
open Go.RowKit

theorem conI_is {xs : List Int} {b : Bool} (h : xs.all okAd = b) {a : Option Addr} {cap : Nat} {w : World} (hin : IntsIn w a xs) (hl : xs.length ≤ 1000) :
    Calls Try.prog 56 #[.slice a xs.length cap, .func (.func 57) #[] #[]] w fun e w' => e = .returned (.bool (!b)) ∧ w = w' := by rw [← h]; exact conI_any xs a cap w hin hl
theorem isSorted_is {xs : List Int} {b : Bool} (h : sortedI xs = b) {a : Option Addr} {cap : Nat} {w : World} (hin : IntsIn w a xs) (hl : xs.length ≤ 1000) :
    Calls Try.prog 58 #[.slice a xs.length cap] w fun e w' => e = .returned (.bool b) ∧ Below w.heap.size w w' := by rw [← h]; exact isSorted_any xs a cap w hin hl
set_option maxHeartbeats 1000000 in
theorem asked_any (l : List Pl) (a : Option Addr) (cap : Nat) (v : Int) (ads : List Int) (a2 : Option Addr) (cap2 : Nat) (w : World) (hin : PlsIn w a l) (hlc : l.length ≤ cap) (hl : l.length ≤ 1000) (hin2 : IntsIn w a2 ads) (hl2 : ads.length ≤ 1000) :
    Calls Try.prog 44 #[.slice a l.length cap, .int .i64 v, .slice a2 ads.length cap2] w fun e w' => e = .returned (.int .i64 (askedE l v ads)) ∧ Below w.heap.size w w' := by
  have HV := Lib.hid (valid_any l a cap w hin hlc hl)
  have HI2 := Lib.hid hin2
  clear hin hin2
  by_cases hE : valE l = 0
  rotate_left
  · have hA : askedE l v ads = valE l := by unfold askedE; rw [if_pos hE]
    rw [hA]
    have hne : (valE l != 0) = true := bne_iff_ne.2 hE
    generalize valE l = E at *
    clear hE hA
    go_enter Try.func44, Try.ntmps44
    go_wp2_with fail
    refine HV.out.mono ?_; rintro e w1 ⟨rfl, hb1⟩
    go_wp2_with fail
    go_ret
    exact ⟨rfl, hb1⟩
  have hA : askedE l v ads = if within v 0 63 && (ads.all okAd && sortedI ads) then 0 else 1 := by unfold askedE; rw [if_neg (by simp [hE])]
  rw [hA]
  rw [hE] at HV
  clear hA hE
  cases hw : within v 0 63
  · have HC := Lib.hid (within_is hw)
    clear hw
    go_enter Try.func44, Try.ntmps44
    go_wp2_with fail
    refine HV.out.mono ?_; rintro e w1 ⟨rfl, hb1⟩
    go_wp2_with fail
    refine (HC.out _).mono ?_; rintro e w2 ⟨rfl, rfl⟩
    go_wp2_with fail
    go_ret
    exact ⟨rfl, hb1⟩
  have HC := Lib.hid (within_is hw)
  clear hw
  cases ha : ads.all okAd
  · have HF := Lib.hid (fun w' (h : Below w.heap.size w w') => conI_is (cap := cap2) ha (HI2.out.below h) hl2)
    clear ha
    go_enter Try.func44, Try.ntmps44
    go_wp2_with fail
    refine HV.out.mono ?_; rintro e w1 ⟨rfl, hb1⟩
    have HB1 := Lib.hid hb1; clear hb1
    go_wp2_with fail
    refine (HC.out _).mono ?_; rintro e w2 ⟨rfl, rfl⟩
    go_wp2_with fail
    refine (HF.out _ HB1.out).mono ?_; rintro e w2 ⟨rfl, rfl⟩
    go_wp2_with fail
    go_ret
    exact ⟨rfl, HB1.out⟩
  have HF := Lib.hid (fun w' (h : Below w.heap.size w w') => conI_is (cap := cap2) ha (HI2.out.below h) hl2)
  clear ha
  cases hs : sortedI ads
  all_goals
    have HG := Lib.hid (fun w' (h : Below w.heap.size w w') => isSorted_is (cap := cap2) hs (HI2.out.below h) hl2)
    clear hs
    go_enter Try.func44, Try.ntmps44
    go_wp2_with fail
    refine HV.out.mono ?_; rintro e w1 ⟨rfl, hb1⟩
    have HB1 := Lib.hid hb1; clear hb1
    go_wp2_with fail
    refine (HC.out _).mono ?_; rintro e w2 ⟨rfl, rfl⟩
    go_wp2_with fail
    refine (HF.out _ HB1.out).mono ?_; rintro e w2 ⟨rfl, rfl⟩
    go_wp2_with fail
    refine (HG.out _ HB1.out).mono ?_; rintro e w3 ⟨rfl, hb3⟩
    have HB3 := Lib.hid (HB1.out.trans (hb3.mono HB1.out.size)); clear hb3
    go_wp2_with fail
    go_ret
    exact ⟨rfl, HB3.out⟩

/-- What find tells: a place, and whether there is one. -/
def foundP (l : List Pl) (v a : Int) : Pl := (findP l v a).getD noPl
def isFound (l : List Pl) (v a : Int) : Bool := (findP l v a).isSome
theorem covers_within {x : Pl} {v a : Int} : covers v a x = (decide (x.va = v) && within a x.fr (x.to - 1)) := by
  unfold covers within
  congr 2
  rw [decide_eq_decide]
  omega
theorem find1_enter : ∀ args w, (callFunc 60 args).run Try.prog w = .ok (.enter 60 args) w := enters_of Try.func60 (by kernel_rfl) rfl
set_option maxHeartbeats 1000000 in
theorem find1_any (x : Pl) (v a : Int) (p q : Nat) (w : World) (hg : Good x) (hp : w.cell? ⟨p, 0, none⟩ = some (.int .i64 v)) (hq : w.cell? ⟨q, 0, none⟩ = some (.int .i64 a)) :
    Calls Try.prog 60 #[(.agg #[.int .i64 x.fr, .int .i64 x.to, .int .i64 x.va, .int .i64 x.ki, .int .i64 x.nn]), .pointer (some ⟨p, 0, none⟩), .pointer (some ⟨q, 0, none⟩)] w fun e w' => e = .returned (.bool (covers v a x)) ∧ Below w.heap.size w w' := by
  have hcw := covers_within (x := x) (v := v) (a := a)
  obtain ⟨f0, ft, t1, v0, v1, k0, k1, n0, n1⟩ := hg
  rw [hcw]
  have hpw := block_lt_of_cell hp
  have hqw := block_lt_of_cell hq
  clear hcw n0 n1
  by_cases hv : x.va = v
  · have hb1 : (x.va == v) = true := beq_iff_eq.2 hv
    rw [decide_eq_true hv, Bool.true_and]
    have HC := Lib.hid (within_any a x.fr (x.to - 1))
    generalize within a x.fr (x.to - 1) = R at *
    clear hv
    go_enter Try.func60, Try.ntmps60
    go_wp2_with fail
    refine (HC.out _).mono ?_; rintro e w1 ⟨rfl, rfl⟩
    go_wp2_with fail
    go_ret
    exact ⟨rfl, (Below.refl _ _).alloc (Nat.le_refl _) _⟩
  · have hb1 : (x.va == v) = false := beq_eq_false_iff_ne.2 hv
    have hb2 : decide (x.va = v) = false := decide_eq_false hv
    rw [decide_eq_false hv, Bool.false_and]
    clear hv
    go_enter Try.func60, Try.ntmps60
    go_wp2_with fail
    go_ret
    exact ⟨rfl, (Below.refl _ _).alloc (Nat.le_refl _) _⟩
end Go.Proofs.Ytmhneonebjcieaa
