/- The law SeatColors. -/
import Derived.Test.YtgpacajlfclobaaL1
import Derived.Test.YtgpacajlfclobaaQB
namespace Go.Proofs.Ytgpacajlfclobaa
open Go.RowKit

theorem colB_le {n k : Int} {es : List (Int × Int)} (hR : colB n k es = true) : n ≤ 12 := by
  unfold colB colE at hR
  rw [Bool.and_eq_true, decide_eq_true_iff] at hR
  have h0 := hR.1
  split at h0
  · rename_i hh
    rw [Bool.and_eq_true] at hh
    exact (edged_ok hh.2).2.1
  · omega
set_option maxRecDepth 100000 in
set_option maxHeartbeats 1000000 in
theorem seatColors_any (n k : Int) (es : List (Int × Int)) (a : Option Addr) (acap : Nat) (w : World) (hin : MovesIn w a es) :
    Calls Try.prog 7 #[.agg #[.int .i64 n, .int .i64 k], .slice a es.length acap] w fun e w' => e = .returned (.bool true) ∧ Below w.heap.size w w' := by
  have HK := Lib.hid known_any
  have hb0 : Below w.heap.size w (w.alloc (.cells #[.int .i64 n, .int .i64 k] 39)) := (Below.refl _ _).alloc (Nat.le_refl _) _
  have hs0 := hb0.size
  have HB0 := Lib.hid hb0; clear hb0
  by_cases h200 : 200 < es.length
  · have hi : (200 : Int) < (es.length : Int) := by omega
    clear hin
    go_enter Try.func7, Try.ntmps7
    go_wp2_with fail
    refine (HK.out _).mono ?_; rintro e w2 ⟨rfl, hb2⟩
    go_wp2_with fail
    go_ret
    exact ⟨rfl, HB0.out.trans (hb2.mono hs0)⟩
  · have hi : ¬ (200 : Int) < (es.length : Int) := by omega
    have q0 : (w.alloc (.cells #[.int .i64 n, .int .i64 k] 39)).cell? ⟨w.heap.size, 0, none⟩ = some (.int .i64 n) := by simp [go_sem]
    have q1 : (w.alloc (.cells #[.int .i64 n, .int .i64 k] 39)).cell? ⟨w.heap.size, 1, none⟩ = some (.int .i64 k) := by simp [go_sem]
    have Q0 := Lib.hid q0; have Q1 := Lib.hid q1; clear q0 q1
    have HA := Lib.hid (colors_any n k es a acap _ (hin.below HB0.out) (by omega))
    have HB : Hid (∀ w', Below w.heap.size w w' → Calls Try.prog 19 #[.int .i64 n, .int .i64 k, .slice a es.length acap] w' fun e w'' => e = .returned (.tuple #[.bool (colB n k es), .int .i64 (colE n k es)]) ∧ Below w'.heap.size w' w'') := Lib.hid fun w' hb =>
      rColors_any n k es a acap w' (hin.below hb) (by omega)
    have HC : Hid (∀ w' (q N : Nat) g, Below w.heap.size w w' → colB n k es = true → n = (N : Int) → NRow w' q N g → GoodF (toN es) k.toNat g N → Calls Try.prog 17 #[.int .i64 n, .slice a es.length acap, .slice (some ⟨q, 0, none⟩) N N] w' fun e w'' => (∃ m : Nat, e = .returned (.tuple #[.int .i64 (m : Nat), .int .i64 0])) ∧ Below w'.heap.size w' w'') := Lib.hid fun w' q N g hb hR hn hrow hgood => by
      have h12 := colB_le hR
      have := rCheck_any n es (colL N g) a (some ⟨q, 0, none⟩) acap N w' (hin.below hb) hrow.ints (by omega) (by rw [colL_len]; omega)
      rw [colL_len, checkE_good hR hn hgood] at this
      exact this.mono fun e w'' ⟨h1, h2⟩ => ⟨⟨_, h1⟩, h2⟩
    have HRange : Hid (∀ (N : Nat) g, colB n k es = true → GoodF (toN es) k.toNat g N → ∀ j, j < N → (g j : Int) < k) := Lib.hid fun N g h1 h2 => colors_range h1 h2
    have HLe : Hid (colB n k es = true → n ≤ 12) := Lib.hid colB_le
    have HP : Hid (∀ v w', ColPost n k es v w' → (colB n k es = false → v = .slice none 0 0) ∧ (colB n k es = true → ∃ q N g, v = .slice (some ⟨q, 0, none⟩) N N ∧ n = (N : Int) ∧ NRow w' q N g ∧ GoodF (toN es) k.toNat g N)) := Lib.hid fun v w' h => by
      unfold ColPost at h
      cases hc : colB n k es
      · rw [hc] at h
        exact ⟨fun _ => h, fun h => by cases h⟩
      · rw [hc] at h
        exact ⟨fun h => (by cases h), fun _ => h⟩
    clear hin
    have hEE : ∀ E : Int, (E != E) = false := fun E => by simp
    have HEE := Lib.hid (hEE (colE n k es)); clear hEE
    generalize colE n k es = E at *
    generalize colB n k es = R at *
    have hEE := HEE.out
    go_enter Try.func7, Try.ntmps7
    go_wp2_with fail
    refine HA.out.mono ?_; rintro e w1 ⟨⟨v, rfl, hpost⟩, hb1⟩
    have HB1 := Lib.hid (HB0.out.trans (hb1.mono hs0))
    have c0 := keep Q0.out hb1; have c1 := keep Q1.out hb1
    have hp := HP.out _ _ hpost
    clear hb1 hpost
    cases R
    · obtain rfl := hp.1 rfl
      clear hp
      go_wp2_with fail
      refine (HB.out _ HB1.out).mono ?_; rintro e w2 ⟨rfl, hb2⟩
      have HB2 := Lib.hid (HB1.out.trans (hb2.mono HB1.out.size)); clear hb2
      go_wp2_with fail
      refine (HK.out _).mono ?_; rintro e w5 ⟨rfl, hb5⟩
      go_wp2_with fail
      go_ret
      exact ⟨rfl, HB2.out.trans (hb5.mono HB2.out.size)⟩
    · obtain ⟨q, N, g, rfl, hnN, hrow, hgood⟩ := hp.2 rfl
      have HRow := Lib.hid hrow; have HGood := Lib.hid hgood; have HnN := Lib.hid hnN
      clear hp hrow hgood hnN
      go_wp2_with fail
      refine (HB.out _ HB1.out).mono ?_; rintro e w2 ⟨rfl, hb2⟩
      have HB2 := Lib.hid (HB1.out.trans (hb2.mono HB1.out.size))
      have HRow2 := Lib.hid (HRow.out.below hb2)
      have d0 := keep c0 hb2; have d1 := keep c1 hb2
      have hN12 : (N : Int) ≤ 12 := by have := HLe.out (by first | rfl | trivial); rw [HnN.out] at this; exact this
      have HRg := Lib.hid (HRange.out N g (by first | rfl | trivial) HGood.out)
      clear hb2 c0 c1
      go_wp2_with fail
      go_loopw [10] (fun i wr => ∃ j : Nat, j ≤ N ∧ i = .int .i64 j ∧ Below w2.heap.size w2 wr) (fun i _ => N - (intOf i).toNat)
      case atStart => exact ⟨0, Nat.zero_le _, rfl, Below.refl _ _⟩
      case round =>
        obtain ⟨j, hj, rfl, hbr⟩ := hrel
        have e0 := keep d0 hbr; have e1 := keep d1 hbr
        have HRow3 := Lib.hid (HRow2.out.below hbr)
        have HBr := Lib.hid hbr
        have HBw := Lib.hid (HB2.out.trans (hbr.mono HB2.out.size))
        clear hbr d0 d1
        by_cases hjn : j < N
        · have hji : (j : Int) < (N : Int) := by omega
          have hj0 : (0 : Int) ≤ (j : Int) := by omega
          have cj := HRow3.out.cell hjn
          have hrg := HRg.out j hjn
          generalize g j = gj at *
          have g0 : ¬ (gj : Int) < 0 := by omega
          have g0' : decide ((gj : Int) < 0) = false := decide_eq_false g0
          have g1 : ¬ k ≤ (gj : Int) := by omega
          have g1' : decide (k ≤ (gj : Int)) = false := decide_eq_false g1
          go_wp2_with fail
          go_quiet (fail)
          go_wp2_with fail
          go_roundw
          case rel => exact ⟨j + 1, by omega, by go_num, HBr.out.trans (below_drewN (Below.refl _ _) _)⟩
          case measure => simp [intOf]; omega
        · have hji : ¬ (j : Int) < (N : Int) := by omega
          have HC1 := Lib.hid (HC.out _ q N g HBw.out (by first | rfl | trivial) HnN.out HRow3.out HGood.out)
          go_wp2_with fail
          refine HC1.out.mono ?_; rintro e w4 ⟨⟨m, rfl⟩, hb4⟩
          have HB4 := Lib.hid (HBw.out.trans (hb4.mono HBw.out.size)); clear hb4
          go_wp2_with fail
          refine (HK.out _).mono ?_; rintro e w5 ⟨rfl, hb5⟩
          go_wp2_with fail
          go_ret
          exact ⟨rfl, HB4.out.trans (hb5.mono HB4.out.size)⟩
end Go.Proofs.Ytgpacajlfclobaa
