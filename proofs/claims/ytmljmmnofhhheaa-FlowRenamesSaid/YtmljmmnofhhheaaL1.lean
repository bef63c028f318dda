/- The law FlowDominates. -/
import Derived.Test.YtmljmmnofhhheaaWY
namespace Go.Proofs.Ytmljmmnofhhheaa
open Go.RowKit

theorem short_of_long {g : List (List Int)} (h : longB g = false) : Short g := by
  unfold longB at h
  rw [Bool.or_eq_false_iff, decide_eq_false_iff_not] at h
  refine short_of (by omega) fun r hr => ?_
  have h1 := h.1
  rw [← Bool.not_eq_true, List.any_eq_true] at h1
  apply Nat.le_of_not_lt
  intro c
  exact h1 ⟨r, hr, by simp; omega⟩
theorem domR_self {g : List (List Int)} {a : Int} (h : thereE g [a, a] = 0) : domR g a a = true := by
  unfold domR; rw [if_pos h, domB_self]

set_option maxRecDepth 100000 in
set_option maxHeartbeats 2000000 in
theorem flowDominates_any (g : List (List Int)) (ga : Option Addr) (cap : Nat) (a b : Int) (w : World) (hin : RowsIn w ga g) (hl : g.length ≤ maxLen) (hr : ∀ k, k < g.length → (g.getD k []).length ≤ maxLen) :
    Calls Try.prog 7 #[.slice ga g.length cap, .int .i64 a, .int .i64 b] w fun e w' => e = .returned (.bool true) ∧ Below w.heap.size w w' := by
  have HL := Lib.hid (long_any g ga cap w hin hl hr)
  cases hlong : longB g
  · rw [hlong] at HL
    have hs := short_of_long hlong
    have HD := Lib.hid (Dominates_any g ga cap a b w hin hs)
    have HRd : Hid (∀ w', Below w.heap.size w w' → Calls Try.prog 30 #[.slice ga g.length cap, .int .i64 a, .int .i64 b] w' fun e w'' => e = .returned (.tuple #[.bool (domR g a b), .int .i64 (thereE g [a, b])]) ∧ Below w'.heap.size w' w'') := Lib.hid fun w' hb => rrDominates_any g ga cap a b w' (hin.below hb) hs
    have HK := Lib.hid known_any
    have hself : thereE g [a, b] = 0 → a = b → domR g a b = true := fun h e => by subst e; exact domR_self h
    clear hin hl hr hs hlong
    generalize domR g a b = D at *
    generalize thereE g [a, b] = E at *
    by_cases hE : E = 0
    · subst hE
      by_cases hab : a = b
      · have hD := hself rfl hab
        subst hab hD
        clear hself
        go_enter Try.func7, Try.ntmps7
        go_wp2_with fail
        refine HL.out.mono ?_; rintro e w1 ⟨rfl, rfl⟩
        go_wp2_with fail
        refine HD.out.mono ?_; rintro e w2 ⟨rfl, hb2⟩
        go_wp2_with fail
        refine (HRd.out _ hb2).mono ?_; rintro e w3 ⟨rfl, hb3⟩
        have HB3 := Lib.hid (hb2.trans (hb3.mono hb2.size)); clear hb2 hb3
        go_wp2_with fail
        refine (HK.out _).mono ?_; rintro e w4 ⟨rfl, hb4⟩
        go_wp2_with fail
        go_ret
        exact ⟨rfl, HB3.out.trans (hb4.mono HB3.out.size)⟩
      · have habb : (a != b) = true := by simpa using hab
        clear hself hab
        cases D
        all_goals
          go_enter Try.func7, Try.ntmps7
          go_wp2_with fail
          refine HL.out.mono ?_; rintro e w1 ⟨rfl, rfl⟩
          go_wp2_with fail
          refine HD.out.mono ?_; rintro e w2 ⟨rfl, hb2⟩
          go_wp2_with fail
          refine (HRd.out _ hb2).mono ?_; rintro e w3 ⟨rfl, hb3⟩
          have HB3 := Lib.hid (hb2.trans (hb3.mono hb2.size)); clear hb2 hb3
          go_wp2_with fail
          refine (HK.out _).mono ?_; rintro e w4 ⟨rfl, hb4⟩
          go_wp2_with fail
          go_ret
          exact ⟨rfl, HB3.out.trans (hb4.mono HB3.out.size)⟩
    · have hEb : (E != 0) = true := by simpa using hE
      have hEE : (E == E) = true := by simp
      clear hself hE
      cases D
      all_goals
        go_enter Try.func7, Try.ntmps7
        go_wp2_with fail
        refine HL.out.mono ?_; rintro e w1 ⟨rfl, rfl⟩
        go_wp2_with fail
        refine HD.out.mono ?_; rintro e w2 ⟨rfl, hb2⟩
        go_wp2_with fail
        refine (HRd.out _ hb2).mono ?_; rintro e w3 ⟨rfl, hb3⟩
        have HB3 := Lib.hid (hb2.trans (hb3.mono hb2.size)); clear hb2 hb3
        go_wp2_with fail
        refine (HK.out _).mono ?_; rintro e w4 ⟨rfl, hb4⟩
        go_wp2_with fail
        go_ret
        exact ⟨rfl, HB3.out.trans (hb4.mono HB3.out.size)⟩
  · rw [hlong] at HL
    have HK := Lib.hid known_any
    clear hin hl hr hlong
    go_enter Try.func7, Try.ntmps7
    go_wp2_with fail
    refine HL.out.mono ?_; rintro e w1 ⟨rfl, rfl⟩
    go_wp2_with fail
    refine (HK.out _).mono ?_; rintro e w2 ⟨rfl, hb2⟩
    go_wp2_with fail
    go_ret
    exact ⟨rfl, hb2⟩
end Go.Proofs.Ytmljmmnofhhheaa
