/- Walks of the closures of backs, Critical, IsReducible; of backs, Backs, Critical. -/
import Derived.Test.YtmljmmnofhhheaaWE
import Derived.StillTailTactics
namespace Go.Proofs.Ytmljmmnofhhheaa
open Go.RowKit

noncomputable def goodBack (g : Gr) (a b : Nat) : Bool := domB g b a
noncomputable def goodFwd (g : Gr) (a b : Nat) : Bool := !(domB g b a)
def goodCrit (g : Gr) (a b : Nat) : Bool := decide ((succ g a).length = 2) && ((succ g a).getD 0 0 != (succ g a).getD 1 0) && decide (1 < (setL (beforeS g (b : Nat) g.length)).length)

set_option maxHeartbeats 1000000 in
theorem backs1_any (x y pg : Nat) (g : Gr) (a : Option Addr) (cap : Nat) (w : World) (hc : w.cell? ⟨pg, 0, none⟩ = some (.slice a g.length cap)) (hg : GraphIn w a g) (ok : OkG g) (hx : x < g.length) :
    Calls Try.prog 77 #[.int .i64 x, .int .i64 y, .pointer (some ⟨pg, 0, none⟩)] w fun e w' => e = .returned (.bool (goodBack g x y)) ∧ Below w.heap.size w w' := by
  have HD := Lib.hid (dominates_any g a cap y x w hg ok hx)
  unfold goodBack
  clear hg
  go_enter Try.func77, Try.ntmps77
  go_wp2_with (first | (go_at_call 43; refine HD.out.mono ?_; rintro e w3 ⟨rfl, hb3⟩))
  go_ret
  exact ⟨rfl, hb3⟩
set_option maxHeartbeats 1000000 in
theorem fwd1_any (x y pg : Nat) (g : Gr) (a : Option Addr) (cap : Nat) (w : World) (hc : w.cell? ⟨pg, 0, none⟩ = some (.slice a g.length cap)) (hg : GraphIn w a g) (ok : OkG g) (hx : x < g.length) :
    Calls Try.prog 42 #[.int .i64 x, .int .i64 y, .pointer (some ⟨pg, 0, none⟩)] w fun e w' => e = .returned (.bool (goodFwd g x y)) ∧ Below w.heap.size w w' := by
  have HD := Lib.hid (dominates_any g a cap y x w hg ok hx)
  unfold goodFwd
  clear hg
  go_enter Try.func42, Try.ntmps42
  go_wp2_with (first | (go_at_call 43; refine HD.out.mono ?_; rintro e w3 ⟨rfl, hb3⟩))
  go_ret
  exact ⟨rfl, hb3⟩
set_option maxRecDepth 100000 in
set_option maxHeartbeats 2000000 in
theorem crit1_any (x y pg : Nat) (g : Gr) (a : Option Addr) (cap : Nat) (w : World) (hc : w.cell? ⟨pg, 0, none⟩ = some (.slice a g.length cap)) (hg : GraphIn w a g) (ok : OkG g) (hx : x < g.length) :
    Calls Try.prog 51 #[.int .i64 x, .int .i64 y, .pointer (some ⟨pg, 0, none⟩)] w fun e w' => e = .returned (.bool (goodCrit g x y)) ∧ Below w.heap.size w w' := by
  have HB : Hid (∀ w', Below w.heap.size w w' → Calls Try.prog 52 #[.slice a g.length cap, .int .i64 y] w' fun e w'' => e = .returned (tenV (beforeS g y g.length)) ∧ Below w'.heap.size w' w'') := Lib.hid fun w' hb => before_any a cap g y w' (hg.below hb) ok
  obtain ⟨gb, goff, a', cap', rfl, hcell, hrow⟩ := hg x hx
  have h10 := ok.ten
  have hx10 : (x : Int) < (g.length : Int) := by omega
  by_cases h2 : (succ g x).length = 2
  · obtain ⟨b0, off0, rfl, hx0⟩ := hrow 0 (by omega)
    obtain ⟨b1, off1, e1, hx1⟩ := hrow 1 (by omega)
    simp only [Option.some.injEq, Addr.mk.injEq, and_true] at e1
    obtain ⟨rfl, rfl⟩ := e1
    rw [h2] at hcell
    clear hrow hg
    have hgc : goodCrit g x y = (((succ g x).getD 0 0 != (succ g x).getD 1 0) && decide (1 < (setL (beforeS g (y : Nat) g.length)).length)) := by unfold goodCrit; rw [h2]; rfl
    rw [hgc]
    clear hgc h2
    generalize (succ g x).getD 0 0 = s0 at *
    generalize (succ g x).getD 1 0 = s1 at *
    rw [Nat.add_zero] at hx0
    by_cases hs : s0 = s1
    · subst hs
      have e1 : (s0 != s0) = false := by simp
      rw [e1, Bool.false_and]
      clear e1
      have h01 : ((s0 : Int) != (s0 : Int)) = false := by simp
      go_enter Try.func51, Try.ntmps51
      go_wp2_with fail
      go_still_tail 24, (by kernel_rfl)
      change wpList _ _ _ _ _ w.drew
      go_wp2_with fail
      go_ret
      exact ⟨rfl, (Below.refl _ _).drew⟩
    · have e1 : (s0 != s1) = true := by simpa using hs
      rw [e1, Bool.true_and]
      clear e1
      have h01 : ((s0 : Int) != (s1 : Int)) = true := by simp; omega
      clear hs
      generalize hS : beforeS g (y : Nat) g.length = S at *
      clear hS
      have hL : Hid (∀ w', Calls Try.prog 45 #[tenV S] w' fun e w'' => ∃ v, e = .returned v ∧ NatSl w'' v (setL S) ∧ Below w'.heap.size w' w'') := Lib.hid fun w' => list_any S w'
      generalize setL S = L at *
      go_enter Try.func51, Try.ntmps51
      go_wp2_with fail
      go_still_tail 24, (by kernel_rfl)
      change wpList _ _ _ _ _ w.drew
      go_wp2_with fail
      refine (HB.out _ (Below.refl _ _).drew).mono ?_; rintro e w2 ⟨rfl, hb2⟩
      go_wp2_with fail
      refine (hL.out _).mono ?_; rintro e w3 ⟨v, rfl, ⟨la, lcap, rfl, _⟩, hb3⟩
      have hb3 := ((Below.refl _ _).drew.trans hb2).trans (hb3.mono hb2.size)
      clear hb2
      go_wp2_with fail
      go_ret
      exact ⟨ret_bool (by rw [decide_eq_decide]; omega), hb3⟩
  · have hgc : goodCrit g x y = false := by unfold goodCrit; simp [h2]
    rw [hgc]
    clear hgc hrow hg
    have h2b : (((succ g x).length : Int) == 2) = false := by simp; omega
    generalize (succ g x).length = n at *
    clear h2
    go_enter Try.func51, Try.ntmps51
    go_wp2_with fail
    go_quiet (fail)
    go_wp2_with fail
    go_ret
    exact ⟨rfl, below_drewN (Below.refl _ _) _⟩
end Go.Proofs.Ytmljmmnofhhheaa
