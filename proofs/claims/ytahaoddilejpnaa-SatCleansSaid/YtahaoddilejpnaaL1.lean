/- The law SatHolds. -/
import Derived.Test.YtahaoddilejpnaaHI
import Derived.Test.YtahaoddilejpnaaEK
namespace Go.Proofs.Ytahaoddilejpnaa
open Go.RowKit

theorem known_any (w : World) : Calls Try.prog 11 #[] w fun e w' => e = .returned (.bool true) ∧ Below w.heap.size w w' := Mini.known_true w
theorem short_of {n : Int} {g : List (List Int)} (h : longB n g = false) : Short g := by
  unfold longB at h
  rw [Bool.or_eq_false_iff, Bool.or_eq_false_iff, List.any_eq_false] at h
  have h1 := of_decide_eq_false h.1.2
  refine ⟨by omega, fun k hk => ?_⟩
  have h2 := h.1.1 _ (getD_mem g [] k hk)
  rw [Bool.not_eq_true] at h2
  have := of_decide_eq_false h2
  omega
set_option maxRecDepth 100000 in
set_option maxHeartbeats 1000000 in
theorem satHolds_any (n : Int) (g : List (List Int)) (m : List Bool) (a a2 : Option Addr) (cap cap2 : Nat) (w : World) (hin : RowsIn w a g) (hm : BoolsIn w a2 m) (hg : g.length ≤ maxLen) (hr : ∀ k, k < g.length → (g.getD k []).length ≤ maxLen) :
    Calls Try.prog 4 #[.int .i64 n, .slice a g.length cap, .slice a2 m.length cap2] w fun e w' => e = .returned (.bool true) ∧ Below w.heap.size w w' := by
  have HL := Lib.hid (long_any n g a cap w hin hg hr)
  have HK := Lib.hid known_any
  cases hlo : longB n g
  rotate_left
  · rw [hlo] at HL
    clear hin hm hg hr hlo
    generalize g.length = p at *
    generalize m.length = q at *
    go_enter Try.func4, Try.ntmps4
    go_wp2_with fail
    refine HL.out.mono ?_; rintro e w2 ⟨rfl, rfl⟩
    go_wp2_with fail
    refine (HK.out _).mono ?_; rintro e w2 ⟨rfl, hb2⟩
    go_wp2_with fail
    go_ret
    exact ⟨rfl, hb2⟩
  rw [hlo] at HL
  by_cases h5 : 5000 < m.length
  · have hi : (5000 : Int) < (m.length : Int) := by omega
    clear hin hm hg hr hlo h5
    generalize g.length = p at *
    generalize m.length = q at *
    go_enter Try.func4, Try.ntmps4
    go_wp2_with fail
    refine HL.out.mono ?_; rintro e w2 ⟨rfl, rfl⟩
    go_wp2_with fail
    refine (HK.out _).mono ?_; rintro e w2 ⟨rfl, hb2⟩
    go_wp2_with fail
    go_ret
    exact ⟨rfl, hb2⟩
  have hi : ¬ (5000 : Int) < (m.length : Int) := by omega
  have hs := short_of hlo
  have HA := Lib.hid (Holds_any n g m a a2 cap cap2 w hin hs hm (by omega))
  have HB : Hid (∀ W, Below w.heap.size w W → Calls Try.prog 15 #[.int .i64 n, .slice a g.length cap, .slice a2 m.length cap2] W fun e w' => e = .returned (.tuple #[.bool (holdV n g m), .int .i64 (holdC n g m)]) ∧ W = w') :=
    Lib.hid fun W hb => rHolds_any n g m a a2 cap cap2 W (hin.below hb) hs (hm.below hb) (by omega)
  have HV1 : Hid (∀ W, Below w.heap.size w W → Calls Try.prog 18 #[.int .i64 n, .slice a g.length cap] W fun e w' => e = .returned (.int .i64 (validE n g)) ∧ Below W.heap.size W w') :=
    Lib.hid fun W hb => sValidate_any n g a cap W (hin.below hb) hs
  have HV2 : Hid (∀ W, Below w.heap.size w W → Calls Try.prog 13 #[.int .i64 n, .slice a g.length cap] W fun e w' => e = .returned (.int .i64 (validE n g)) ∧ W = w') :=
    Lib.hid fun W hb => rValidate_any n g a cap W (hin.below hb) hs
  clear hin hm hg hr hlo h5
  generalize validE n g = x at *
  generalize holdV n g m = y at *
  generalize holdC n g m = z at *
  generalize g.length = p at *
  generalize m.length = q at *
  have hx : (x == x) = true := by simp
  have hy : (y == y) = true := by simp
  have hz : (z == z) = true := by simp
  go_enter Try.func4, Try.ntmps4
  go_wp2_with fail
  refine HL.out.mono ?_; rintro e w2 ⟨rfl, rfl⟩
  go_wp2_with fail
  refine HA.out.mono ?_; rintro e w2 ⟨rfl, hb2⟩
  have HB2 := Lib.hid hb2; clear hb2
  go_wp2_with fail
  refine (HB.out _ HB2.out).mono ?_; rintro e w3 ⟨rfl, rfl⟩
  go_wp2_with fail
  refine (HV1.out _ HB2.out).mono ?_; rintro e w3 ⟨rfl, hb3⟩
  have HB3 := Lib.hid (HB2.out.trans (hb3.mono HB2.out.size)); clear hb3
  go_wp2_with fail
  refine (HV2.out _ HB3.out).mono ?_; rintro e w4 ⟨rfl, rfl⟩
  go_wp2_with fail
  refine (HK.out _).mono ?_; rintro e w5 ⟨rfl, hb5⟩
  go_wp2_with fail
  go_ret
  exact ⟨rfl, HB3.out.trans (hb5.mono HB3.out.size)⟩
end Go.Proofs.Ytahaoddilejpnaa
