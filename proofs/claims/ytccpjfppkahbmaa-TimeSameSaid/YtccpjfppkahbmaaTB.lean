/- SameInts of a list with itself; long. -/
import Derived.Test.YtccpjfppkahbmaaTA
namespace Go.Proofs.Ytccpjfppkahbmaa
open Go.RowKit PK

set_option maxHeartbeats 1000000 in
theorem same_any (xs : List Int) (a b : Option Addr) (ca cb : Nat) (w : World) (ha : IntsIn w a xs) (hb : IntsIn w b xs) (hl : xs.length ≤ 1000000) :
    Calls Try.prog 20 #[.slice a xs.length ca, .slice b xs.length cb] w fun e w' => e = .returned (.bool true) ∧ Below w.heap.size w w' := by
  have HA := Lib.hid ha; have HB := Lib.hid hb
  clear ha hb
  go_enter Try.func20, Try.ntmps20
  go_wp2_with fail
  go_loopw [5] (fun i wr => ∃ k : Nat, k ≤ xs.length ∧ i = .int .i64 k ∧ Below w.heap.size w wr) (fun i _ => xs.length - (intOf i).toNat)
  case atStart => exact ⟨0, Nat.zero_le _, rfl, Below.refl _ _⟩
  case round =>
    obtain ⟨k, hk, rfl, hbl⟩ := hrel
    by_cases hlt : k < xs.length
    · obtain ⟨b1, o1, rfl, h1⟩ := HA.out.below hbl k hlt
      obtain ⟨b2, o2, rfl, h2⟩ := HB.out.below hbl k hlt
      have HBl := Lib.hid hbl
      have hki : (k : Int) < (xs.length : Int) := by omega
      clear hbl
      generalize xs.getD k 0 = x at *
      have hb : (x != x) = false := by simp
      go_wp2_with fail
      go_quiet (fail)
      go_wp2_with fail
      go_roundw
      case rel => exact ⟨k + 1, by omega, by go_num, below_drewN HBl.out _⟩
      case measure => simp [intOf]; omega
    · have HBl := Lib.hid hbl
      clear hbl
      go_wp2_with fail
      go_ret
      exact ⟨rfl, HBl.out⟩
theorem long_any (n cap : Nat) (a : Option Addr) (w : World) : Calls Try.prog 10 #[.slice a n cap] w fun e w' => e = .returned (.bool (decide ((100 : Int) < n))) ∧ w = w' := by
  go_enter Try.func10, Try.ntmps10
  go_wp2_with fail
  go_ret
  exact ⟨rfl, rfl⟩
end Go.Proofs.Ytccpjfppkahbmaa
