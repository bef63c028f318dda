/- The law FlowGraphs. -/
import Derived.Test.YtmljmmnofhhheaaL2
namespace Go.Proofs.Ytmljmmnofhhheaa
open Go.RowKit

theorem reachedL_len (g : List (List Int)) : (reachedL g).length ≤ 1000 := by
  unfold reachedL
  split
  · exact Nat.le_trans (setUpto_len _ 10) (by decide)
  · simp
theorem beforeL_len (g : List (List Int)) (v : Int) : (beforeL g v).length ≤ 1000 := by
  unfold beforeL
  split
  · exact Nat.le_trans (setUpto_len _ 10) (by decide)
  · simp
theorem natsIn_of {w : World} {v : Value} {xs : List Nat} (h : NatSl w v xs) : ∃ a cap, v = .slice a xs.length cap ∧ NatsIn w a xs := h

set_option maxRecDepth 100000 in
set_option maxHeartbeats 2000000 in
theorem flowGraphs_any (g : List (List Int)) (ga : Option Addr) (cap : Nat) (v : Int) (w : World) (hin : RowsIn w ga g) (hl : g.length ≤ maxLen) (hr : ∀ k, k < g.length → (g.getD k []).length ≤ maxLen) :
    Calls Try.prog 5 #[.slice ga g.length cap, .int .i64 v] w fun e w' => e = .returned (.bool true) ∧ Below w.heap.size w w' := by
  have HL := Lib.hid (long_any g ga cap w hin hl hr)
  cases hlong : longB g
  · rw [hlong] at HL
    have hs := short_of_long hlong
    have HR := Lib.hid (Reached_any g ga cap w hin hs)
    have HR2 : Hid (∀ w', Below w.heap.size w w' → Calls Try.prog 22 #[.slice ga g.length cap] w' (ListPost (validE g) (reachedL g) w')) := Lib.hid fun w' hb => rReached_any g ga cap w' (hin.below hb) hs
    have HB1 : Hid (∀ w', Below w.heap.size w w' → Calls Try.prog 23 #[.slice ga g.length cap, .int .i64 v] w' (ListPost (nodeE g [v]) (beforeL g v) w')) := Lib.hid fun w' hb => Before_any g ga cap v w' (hin.below hb) hs
    have HB2 : Hid (∀ w', Below w.heap.size w w' → Calls Try.prog 24 #[.slice ga g.length cap, .int .i64 v] w' (ListPost (nodeE g [v]) (beforeL g v) w')) := Lib.hid fun w' hb => rBefore_any g ga cap v w' (hin.below hb) hs
    have HV1 : Hid (∀ w', Below w.heap.size w w' → Calls Try.prog 25 #[.slice ga g.length cap] w' fun e w'' => e = .returned (.int .i64 (validE g)) ∧ Below w'.heap.size w' w'') := Lib.hid fun w' hb => Validate_any g ga cap w' (hin.below hb) hs
    have HV2 : Hid (∀ w', Below w.heap.size w w' → Calls Try.prog 26 #[.slice ga g.length cap] w' fun e w'' => e = .returned (.int .i64 (validE g)) ∧ w' = w'') := Lib.hid fun w' hb => rValidate_any g ga cap w' (hin.below hb) hs
    have HK := Lib.hid known_any
    have hl1 := reachedL_len g
    have hl2 := beforeL_len g v
    clear hin hl hr hs hlong
    generalize validE g = E at *
    generalize nodeE g [v] = N at *
    generalize reachedL g = R at *
    generalize beforeL g v = B at *
    have hEE : (E == E) = true := by simp
    have hNN : (N == N) = true := by simp
    go_enter Try.func5, Try.ntmps5
    go_wp2_with fail
    refine HL.out.mono ?_; rintro e w1 ⟨rfl, rfl⟩
    go_wp2_with fail
    refine HR.out.mono ?_; rintro e w2 ⟨v2, rfl, h2, hb2⟩
    have H2 := Lib.hid h2; have HBa := Lib.hid hb2; clear h2 hb2
    go_wp2_with fail
    refine (HR2.out _ HBa.out).mono ?_; rintro e w3 ⟨v3, rfl, h3, hb3⟩
    have H2b := Lib.hid (H2.out.below hb3); have H3 := Lib.hid h3; have HBb := Lib.hid (HBa.out.trans (hb3.mono HBa.out.size)); clear h3 hb3
    go_wp2_with fail
    refine (HB1.out _ HBb.out).mono ?_; rintro e w4 ⟨v4, rfl, h4, hb4⟩
    have H2c := Lib.hid (H2b.out.below hb4); have H3b := Lib.hid (H3.out.below hb4); have H4 := Lib.hid h4; have HBc := Lib.hid (HBb.out.trans (hb4.mono HBb.out.size)); clear h4 hb4
    go_wp2_with fail
    refine (HB2.out _ HBc.out).mono ?_; rintro e w5 ⟨v5, rfl, h5, hb5⟩
    have H2d := Lib.hid (H2c.out.below hb5); have H3c := Lib.hid (H3b.out.below hb5); have H4b := Lib.hid (H4.out.below hb5); have H5 := Lib.hid h5; have HBd := Lib.hid (HBc.out.trans (hb5.mono HBc.out.size)); clear h5 hb5
    go_wp2_with fail
    refine (HV1.out _ HBd.out).mono ?_; rintro e w6 ⟨rfl, hb6⟩
    have H2e := Lib.hid (H2d.out.below hb6); have H3d := Lib.hid (H3c.out.below hb6); have H4c := Lib.hid (H4b.out.below hb6); have H5b := Lib.hid (H5.out.below hb6); have HBe := Lib.hid (HBd.out.trans (hb6.mono HBd.out.size)); clear hb6
    go_wp2_with fail
    refine (HV2.out _ HBe.out).mono ?_; rintro e w7 ⟨rfl, rfl⟩
    obtain ⟨a2, c2, rfl, n2⟩ := natsIn_of H2e.out
    obtain ⟨a3, c3, rfl, n3⟩ := natsIn_of H3d.out
    have HS := Lib.hid (sameInts_self R a2 a3 c2 c3 _ n2 n3 hl1)
    clear n2 n3
    go_wp2_with fail
    refine HS.out.mono ?_; rintro e w8 ⟨rfl, hb8⟩
    obtain ⟨a4, c4, rfl, n4⟩ := natsIn_of (H4c.out.below hb8)
    obtain ⟨a5, c5, rfl, n5⟩ := natsIn_of (H5b.out.below hb8)
    have HS2 := Lib.hid (sameInts_self B a4 a5 c4 c5 _ n4 n5 hl2)
    have HBf := Lib.hid (HBe.out.trans (hb8.mono HBe.out.size))
    clear n4 n5 hb8
    go_wp2_with fail
    refine HS2.out.mono ?_; rintro e w9 ⟨rfl, hb9⟩
    have HBg := Lib.hid (HBf.out.trans (hb9.mono HBf.out.size))
    clear hb9
    go_wp2_with fail
    refine (HK.out _).mono ?_; rintro e w10 ⟨rfl, hb10⟩
    go_wp2_with fail
    go_ret
    exact ⟨rfl, HBg.out.trans (hb10.mono HBg.out.size)⟩
  · rw [hlong] at HL
    have HK := Lib.hid known_any
    clear hin hl hr hlong
    go_enter Try.func5, Try.ntmps5
    go_wp2_with fail
    refine HL.out.mono ?_; rintro e w1 ⟨rfl, rfl⟩
    go_wp2_with fail
    refine (HK.out _).mono ?_; rintro e w2 ⟨rfl, hb2⟩
    go_wp2_with fail
    go_ret
    exact ⟨rfl, hb2⟩
end Go.Proofs.Ytmljmmnofhhheaa
