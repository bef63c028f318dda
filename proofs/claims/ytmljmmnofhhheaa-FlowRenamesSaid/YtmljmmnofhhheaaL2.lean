/- The law FlowReduces. -/
import Derived.Test.YtmljmmnofhhheaaL1
namespace Go.Proofs.Ytmljmmnofhhheaa
open Go.RowKit

theorem sameEdges_self (L : Pairs) (a b : Option Addr) (ca cb : Nat) (w : World) (ha : PairsIn w a L) (hb : PairsIn w b L) (hl : L.length ≤ 1000) :
    Calls Try.prog 17 #[.slice a L.length ca, .slice b L.length cb] w fun e w' => e = .returned (.bool true) ∧ Below w.heap.size w w' := by
  have := sameEdges_any L L a b ca cb w ha hb hl
  rwa [decide_eq_true rfl] at this
theorem sameInts_self (L : List Nat) (a b : Option Addr) (ca cb : Nat) (w : World) (ha : NatsIn w a L) (hb : NatsIn w b L) (hl : L.length ≤ 1000) :
    Calls Try.prog 21 #[.slice a L.length ca, .slice b L.length cb] w fun e w' => e = .returned (.bool true) ∧ Below w.heap.size w w' := by
  have := sameInts_any L L a b ca cb w ha hb hl
  rwa [decide_eq_true rfl] at this
theorem critR_len (g : List (List Int)) : (critR g).length ≤ 1000 := by
  unfold critR
  split
  · exact edgesL_len (valid_ok ‹_›)
  · simp

set_option maxRecDepth 100000 in
set_option maxHeartbeats 2000000 in
theorem flowReduces_any (g : List (List Int)) (ga : Option Addr) (cap : Nat) (w : World) (hin : RowsIn w ga g) (hl : g.length ≤ maxLen) (hr : ∀ k, k < g.length → (g.getD k []).length ≤ maxLen) :
    Calls Try.prog 3 #[.slice ga g.length cap] w fun e w' => e = .returned (.bool true) ∧ Below w.heap.size w w' := by
  have HL := Lib.hid (long_any g ga cap w hin hl hr)
  cases hlong : longB g
  · rw [hlong] at HL
    have hs := short_of_long hlong
    have HI := Lib.hid (IsReducible_any g ga cap w hin hs)
    have HI2 : Hid (∀ w', Below w.heap.size w w' → Calls Try.prog 14 #[.slice ga g.length cap] w' fun e w'' => e = .returned (.tuple #[.bool (redR g), .int .i64 (validE g)]) ∧ Below w'.heap.size w' w'') := Lib.hid fun w' hb => rIsReducible_any g ga cap w' (hin.below hb) hs
    have HC : Hid (∀ w', Below w.heap.size w w' → Calls Try.prog 15 #[.slice ga g.length cap] w' (PairsPost (validE g) (critR g) w')) := Lib.hid fun w' hb => Critical_any g ga cap w' (hin.below hb) hs
    have HC2 : Hid (∀ w', Below w.heap.size w w' → Calls Try.prog 16 #[.slice ga g.length cap] w' (PairsPost (validE g) (critR g) w')) := Lib.hid fun w' hb => rCritical_any g ga cap w' (hin.below hb) hs
    have HK := Lib.hid known_any
    have hcl := critR_len g
    clear hin hl hr hs hlong
    generalize redR g = D at *
    generalize validE g = E at *
    generalize critR g = C at *
    have hEE : (E == E) = true := by simp
    cases D
    all_goals
      go_enter Try.func3, Try.ntmps3
      go_wp2_with fail
      refine HL.out.mono ?_; rintro e w1 ⟨rfl, rfl⟩
      go_wp2_with fail
      refine HI.out.mono ?_; rintro e w2 ⟨rfl, hb2⟩
      go_wp2_with fail
      refine (HI2.out _ hb2).mono ?_; rintro e w3 ⟨rfl, hb3⟩
      have HB3 := Lib.hid (hb2.trans (hb3.mono hb2.size)); clear hb2 hb3
      go_wp2_with fail
      refine (HC.out _ HB3.out).mono ?_; rintro e w4 ⟨v4, rfl, h4, hb4⟩
      have HB4 := Lib.hid (HB3.out.trans (hb4.mono HB3.out.size)); have H4 := Lib.hid h4; clear hb4 h4
      go_wp2_with fail
      refine (HC2.out _ HB4.out).mono ?_; rintro e w5 ⟨v5, rfl, h5, hb5⟩
      obtain ⟨a4, c4, rfl, h4⟩ := pairsIn_of (H4.out.below hb5)
      obtain ⟨a5, c5, rfl, h5'⟩ := pairsIn_of h5
      have HB5 := Lib.hid (HB4.out.trans (hb5.mono HB4.out.size)); have HSame := Lib.hid (sameEdges_self C a4 a5 c4 c5 w5 h4 h5' hcl); clear hb5 h4 h5 h5'
      go_wp2_with fail
      refine HSame.out.mono ?_; rintro e w6 ⟨rfl, hb6⟩
      have HB6 := Lib.hid (HB5.out.trans (hb6.mono HB5.out.size)); clear hb6
      go_wp2_with fail
      refine (HK.out _).mono ?_; rintro e w7 ⟨rfl, hb7⟩
      go_wp2_with fail
      go_ret
      exact ⟨rfl, HB6.out.trans (hb7.mono HB6.out.size)⟩
  · rw [hlong] at HL
    have HK := Lib.hid known_any
    clear hin hl hr hlong
    go_enter Try.func3, Try.ntmps3
    go_wp2_with fail
    refine HL.out.mono ?_; rintro e w1 ⟨rfl, rfl⟩
    go_wp2_with fail
    refine (HK.out _).mono ?_; rintro e w2 ⟨rfl, hb2⟩
    go_wp2_with fail
    go_ret
    exact ⟨rfl, hb2⟩
end Go.Proofs.Ytmljmmnofhhheaa
