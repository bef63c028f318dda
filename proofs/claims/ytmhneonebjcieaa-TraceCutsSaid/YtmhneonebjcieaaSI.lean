/- The walk of SameInts at equal lists. -/
import Derived.Test.YtmhneonebjcieaaWC
namespace Go.Proofs.Ytmhneonebjcieaa
open Go.RowKit

def NatsIn (w : World) (a : Option Addr) (xs : List Nat) : Prop :=
  ∀ k, k < xs.length → ∃ b off, a = some ⟨b, off, none⟩ ∧ w.cell? ⟨b, off + k, none⟩ = some (.int .i64 (xs.getD k 0 : Nat))
theorem NatsIn.below {w w' : World} {a : Option Addr} {xs : List Nat} (h : NatsIn w a xs) (hb : Below w.heap.size w w') : NatsIn w' a xs := fun k hk => by
  obtain ⟨b, off, rfl, hc⟩ := h k hk
  exact ⟨b, off, rfl, keep hc hb⟩
theorem natsIn_of_owns {w : World} {base : Nat} {e : TypeId} {v : Value} {xs : List Nat} (h : w.ownsRow base e 1 v xs.length (encI xs)) : ∃ a cap, v = .slice a xs.length cap ∧ NatsIn w a xs := by
  by_cases hne : xs = []
  · subst hne
    obtain ⟨a, cap, rfl⟩ := owns_shape h
    exact ⟨a, cap, rfl, fun k hk => absurd hk (Nat.not_lt_zero _)⟩
  · obtain ⟨g, cap, rfl, _, _, _, hc⟩ := nats_of_owns h hne
    exact ⟨_, cap, rfl, fun k hk => ⟨g, 0, rfl, by rw [Nat.zero_add]; exact hc k hk⟩⟩
set_option maxRecDepth 100000 in
set_option maxHeartbeats 1000000 in
theorem sameInts_self (xs : List Nat) (a a' : Option Addr) (cap cap' : Nat) (w : World) (hin : NatsIn w a xs) (hin' : NatsIn w a' xs) (hl : xs.length ≤ 1000) :
    Calls Try.prog 30 #[.slice a xs.length cap, .slice a' xs.length cap'] w fun e w' => e = .returned (.bool true) ∧ Below w.heap.size w w' := by
  have HI := Lib.hid hin; have HI' := Lib.hid hin'
  clear hin hin'
  have hn : ((xs.length : Int) != (xs.length : Int)) = false := by simp
  go_enter Try.func30, Try.ntmps30
  go_wp2_with fail
  go_loopw [5] (fun i wr => ∃ k : Nat, k ≤ xs.length ∧ i = .int .i64 k ∧ Below w.heap.size w wr) (fun i _ => xs.length - (intOf i).toNat)
  case atStart => exact ⟨0, Nat.zero_le _, rfl, Below.refl _ _⟩
  case round =>
    obtain ⟨k, hk, rfl, hb⟩ := hrel
    have HB := Lib.hid hb
    by_cases hlt : k < xs.length
    · have hki : (k : Int) < xs.length := by omega
      have hk0 : (0 : Int) ≤ (k : Int) := by omega
      obtain ⟨b1, o1, rfl, c1⟩ := HI.out.below hb k hlt
      obtain ⟨b2, o2, rfl, c2⟩ := HI'.out.below hb k hlt
      clear hb
      generalize xs.getD k 0 = x at *
      have hx : ((x : Int) != (x : Int)) = false := by simp
      go_wp2_with fail
      go_quiet (fail)
      go_wp2_with fail
      go_roundw
      case rel => exact ⟨k + 1, by omega, by go_num, HB.out.trans (below_drewN (Below.refl _ _) _)⟩
      case measure => simp [intOf]; omega
    · have hki : ¬ (k : Int) < xs.length := by omega
      clear hb
      go_wp2_with fail
      go_ret
      exact ⟨rfl, HB.out⟩
end Go.Proofs.Ytmhneonebjcieaa
