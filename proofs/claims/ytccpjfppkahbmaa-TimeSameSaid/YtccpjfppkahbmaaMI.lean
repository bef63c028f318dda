/- The walk of the statements' Apart at equal memories. -/
import Derived.Test.YtccpjfppkahbmaaMH
namespace Go.Proofs.Ytccpjfppkahbmaa.PK
open Go.RowKit

set_option maxRecDepth 100000 in
set_option maxHeartbeats 4000000 in
theorem Apart_same (m : List Int) (a a' : Option Addr) (cap cap' : Nat) (w : World) (hin : BIn w a m) (hin' : BIn w a' m) (hl : m.length ≤ 1000000) :
    Calls Try.prog 24 #[.slice a m.length cap, .slice a' m.length cap', .int .i64 0] w fun e w' => e = .returned (.bool true) ∧ Below w.heap.size w w' := by
  have HI := Lib.hid hin; have HI' := Lib.hid hin'
  clear hin hin'
  have hn : ((m.length : Int) != (m.length : Int)) = false := by simp
  go_enter Try.func24, Try.ntmps24
  go_wp2_with fail
  go_loopw [7] (fun i wr => ∃ k : Nat, k ≤ m.length ∧ i = .int .i64 k ∧ Below w.heap.size w wr) (fun i _ => m.length - (intOf i).toNat)
  case atStart => exact ⟨0, Nat.zero_le _, rfl, Below.refl _ _⟩
  case round =>
    obtain ⟨k, hk, rfl, hb⟩ := hrel
    have HB := Lib.hid hb
    by_cases hlt : k < m.length
    · have hki : (k : Int) < m.length := by omega
      have hk0 : (0 : Int) ≤ (k : Int) := by omega
      obtain ⟨b1, o1, rfl, c1⟩ := HI.out.below hb k hlt
      obtain ⟨b2, o2, rfl, c2⟩ := HI'.out.below hb k hlt
      clear hb
      generalize m.getD k 0 = x at *
      have hx : (x != x) = false := by simp
      go_wp2_with fail
      go_quiet (fail)
      go_wp2_with fail
      go_roundw
      case rel => exact ⟨k + 1, by omega, by go_num, HB.out.trans (below_drewN (Below.refl _ _) _)⟩
      case measure => simp [intOf]; omega
    · have hki : ¬ (k : Int) < m.length := by omega
      clear hb
      go_wp2_with fail
      go_ret
      exact ⟨rfl, HB.out⟩
end Go.Proofs.Ytccpjfppkahbmaa.PK
