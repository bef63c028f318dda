/- Walks of the count's end. -/
import Derived.Test.YtodkfjdifchibaaDoorW3
import Derived.Test.YtodkfjdifchibaaDoorQ
namespace Go.Proofs.YtodkfjdifchibaaDoor
open Go.RowKit

theorem ret_tt {a b : Int} {c d : Bool} (h : a = b) (g : c = d) {k : IntKind} : Ending.returned (.tuple #[.int k a, .bool c]) = .returned (.tuple #[.int k b, .bool d]) := by rw [h, g]
set_option maxHeartbeats 1000000 in
theorem first_any (f : Nat) : ∀ (a m lo hi n : Int) (ok : Bool) (w : World), a < f → FirstPre a m lo hi → FirstSpec a m lo hi n ok →
    Calls Tryd.prog 38 #[.int .u64 a, .int .u64 m, .int .u64 lo, .int .u64 hi] w fun e w' => e = .returned (.tuple #[.int .u64 n, .bool ok]) ∧ ∃ q, w' = w.drewN q := by
  induction f with
  | zero => intro a m lo hi n ok w hf h; have := h.1; omega
  | succ f ih =>
    intro a m lo hi n ok w hf h hs
    by_cases ha : a = 0
    · subst ha
      obtain ⟨rfl, rfl⟩ := first_unique hs (first_zero h)
      go_enter Tryd.func38, Tryd.ntmps38
      go_wp2_with fail
      go_ret2
      exact ⟨rfl, 0, rfl⟩
    · have hp := h
      obtain ⟨h1, h2, h3, h4, h5, h6⟩ := hp
      have ha : 0 < a := by omega
      have hne : (a == 0) = false := by simp; omega
      obtain ⟨c1, c2, c3⟩ := ceil_form lo a ha (by omega)
      have c4 : (lo + a - 1) / a ≤ 18446744073709551615 := by
        have : (lo + a - 1) / a * 1 ≤ (lo + a - 1) / a * a := Int.mul_le_mul_of_nonneg_left (by omega) c3
        omega
      have w1 : IntKind.u64.wrap ((lo + a - 1) / a * a) = (lo + a - 1) / a * a := by rw [IntKind.wrap_u64]; omega
      by_cases hn : (lo + a - 1) / a * a ≤ hi
      · obtain ⟨rfl, rfl⟩ := first_unique hs (first_near h ha hn)
        go_enter Tryd.func38, Tryd.ntmps38
        go_wp2_with fail
        go_ret2
        exact ⟨rfl, 0, rfl⟩
      · obtain ⟨hq, q1, q2⟩ := far_pre h ha hn
        obtain ⟨f1, f2, f3, f4⟩ := far_form h ha hn
        have f0 : 0 ≤ hi % a := by omega
        have f5 : 0 ≤ lo % a := by omega
        have f6 : lo % a < a := by omega
        have m1 : 0 ≤ m % a := hq.1
        have m2 : m % a < a := hq.2.1
        obtain ⟨t, ok', ht⟩ := first_exists a.toNat.succ _ _ _ _ (by omega) hq
        have hcall := fun w => ih _ _ _ _ t ok' w (by omega) hq ht
        rw [q1, q2] at hcall
        have t1 : m.tmod a = m % a := Int.tmod_eq_emod_of_nonneg (by omega)
        have t2 : hi.tmod a = hi % a := Int.tmod_eq_emod_of_nonneg (by omega)
        have t3 : lo.tmod a = lo % a := Int.tmod_eq_emod_of_nonneg (by omega)
        have w2 : IntKind.u64.wrap (a - hi % a) = a - hi % a := by rw [IntKind.wrap_u64]; omega
        have w3 : IntKind.u64.wrap (a - lo % a) = a - lo % a := by rw [IntKind.wrap_u64]; omega
        have t4 : (a - hi % a).tmod a = a - hi % a := (Int.tmod_eq_emod_of_nonneg (by omega)).trans q1
        have t5 : (a - lo % a).tmod a = a - lo % a := (Int.tmod_eq_emod_of_nonneg (by omega)).trans q2
        cases ok'
        · obtain ⟨rfl, rfl⟩ := first_unique hs (first_far_none h ha hn ht)
          have HC := Lib.hid hcall
          clear q1 q2 hcall ih hs h hq ht
          go_enter Tryd.func38, Tryd.ntmps38
          go_wp2_with fail
          go_quiet ((go_at_call 38; exact Calls.quiet_of (HC.out _)))
          go_wp2_with fail
          go_ret2
          exact ⟨rfl, _, rfl⟩
        · obtain ⟨rfl, rfl⟩ := first_unique hs (first_far_some h ha hn ht)
          have HC := Lib.hid hcall
          obtain ⟨t0, tl⟩ : 0 ≤ t ∧ t < a := by
            rcases ht with ⟨_, g1, g2, _⟩ | ⟨g, _⟩
            · exact ⟨g1.1, g2⟩
            · cases g
          obtain ⟨b1, b2⟩ := first_far_bd h t0 tl
          have b3 : 0 ≤ lo + m * t := by omega
          have e1 : IntKind.u64.wrap (lo + IntKind.u64.wrap (m * t)) = lo + m * t := by rw [IntKind.wrap_u64, IntKind.wrap_u64]; omega
          have hcc := Lib.hid (ceil_code (lo + m * t) a ha b3)
          have b4 : (lo + m * t) / a * a ≤ lo + m * t := by
            exact Int.ediv_mul_le _ (by omega)
          have b5 : 0 ≤ (lo + m * t) / a := Int.ediv_nonneg b3 (by omega)
          have b6 : (lo + m * t) / a ≤ lo + m * t := by
            have : (lo + m * t) / a * 1 ≤ (lo + m * t) / a * a := Int.mul_le_mul_of_nonneg_left (by omega) b5
            omega
          have e2 : IntKind.u64.wrap ((lo + m * t) / a * a) = (lo + m * t) / a * a := by
            have : 0 ≤ (lo + m * t) / a * a := Int.mul_nonneg b5 (by omega)
            rw [IntKind.wrap_u64]; omega
          clear q1 q2 hcall ih hs h hq ht
          by_cases hz : (lo + m * t) / a * a = lo + m * t
          · have hcd : (lo + m * t + a - 1) / a = (lo + m * t) / a := by rw [hcc.out, if_pos hz]
            rw [hcd]; clear hcd hcc
            go_enter Tryd.func38, Tryd.ntmps38
            go_wp2_with fail
            go_quiet ((go_at_call 38; exact Calls.quiet_of (HC.out _)))
            go_wp2_with fail
            go_ret2
            exact ⟨rfl, _, rfl⟩
          · have hcd : (lo + m * t + a - 1) / a = (lo + m * t) / a + 1 := by rw [hcc.out, if_neg hz]
            rw [hcd]; clear hcd hcc
            go_enter Tryd.func38, Tryd.ntmps38
            go_wp2_with fail
            go_quiet ((go_at_call 38; exact Calls.quiet_of (HC.out _)))
            go_wp2_with fail
            go_ret2
            exact ⟨rfl, _, rfl⟩
end Go.Proofs.YtodkfjdifchibaaDoor
