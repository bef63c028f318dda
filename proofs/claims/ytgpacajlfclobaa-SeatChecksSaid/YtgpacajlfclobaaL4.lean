/- The law SeatChecks. -/
import Derived.Test.YtgpacajlfclobaaL1
import Derived.Test.YtgpacajlfclobaaQ3
namespace Go.Proofs.Ytgpacajlfclobaa
open Go.RowKit

set_option maxRecDepth 100000 in
set_option maxHeartbeats 1000000 in
theorem seatChecks_any (n : Int) (es : List (Int × Int)) (cs : List Int) (a ca : Option Addr) (acap ccap : Nat) (w : World) (hin : MovesIn w a es) (hcs : IntsIn w ca cs) :
    Calls Try.prog 6 #[.int .i64 n, .slice a es.length acap, .slice ca cs.length ccap] w fun e w' => e = .returned (.bool true) ∧ Below w.heap.size w w' := by
  have HK := Lib.hid known_any
  by_cases h200 : 200 < es.length
  · have hi : (200 : Int) < (es.length : Int) := by omega
    clear hin hcs
    go_enter Try.func6, Try.ntmps6
    go_wp2_with fail
    refine (HK.out _).mono ?_; rintro e w2 ⟨rfl, hb2⟩
    go_wp2_with fail
    go_ret
    exact ⟨rfl, hb2⟩
  · have hi : ¬ (200 : Int) < (es.length : Int) := by omega
    by_cases h100 : 100 < cs.length
    · have hi1 : (100 : Int) < (cs.length : Int) := by omega
      clear hin hcs
      go_enter Try.func6, Try.ntmps6
      go_wp2_with fail
      refine (HK.out _).mono ?_; rintro e w2 ⟨rfl, hb2⟩
      go_wp2_with fail
      go_ret
      exact ⟨rfl, hb2⟩
    · have hi1 : ¬ (100 : Int) < (cs.length : Int) := by omega
      have HA := Lib.hid (check_any n es cs a ca acap ccap w hin hcs (by omega) (by omega))
      have HB : Hid (∀ w', Below w.heap.size w w' → Calls Try.prog 17 #[.int .i64 n, .slice a es.length acap, .slice ca cs.length ccap] w' fun e w'' => e = .returned (.tuple #[.int .i64 (checkN n es cs : Nat), .int .i64 (checkE n es cs)]) ∧ Below w'.heap.size w' w'') := Lib.hid fun w' hb =>
        rCheck_any n es cs a ca acap ccap w' (hin.below hb) (hcs.below hb) (by omega) (by omega)
      clear hin hcs
      generalize checkE n es cs = E at *
      generalize checkN n es cs = N at *
      have hEE : (E == E) = true := by simp
      have hNN : ((N : Int) == (N : Int)) = true := by simp
      go_enter Try.func6, Try.ntmps6
      go_wp2_with fail
      refine HA.out.mono ?_; rintro e w1 ⟨rfl, hb1⟩
      have HBa := Lib.hid hb1; clear hb1
      go_wp2_with fail
      refine (HB.out _ HBa.out).mono ?_; rintro e w2 ⟨rfl, hb2⟩
      have HBb := Lib.hid (HBa.out.trans (hb2.mono HBa.out.size)); clear hb2
      go_wp2_with fail
      refine (HK.out _).mono ?_; rintro e w5 ⟨rfl, hb5⟩
      go_wp2_with fail
      go_ret
      exact ⟨rfl, HBb.out.trans (hb5.mono HBb.out.size)⟩
end Go.Proofs.Ytgpacajlfclobaa
