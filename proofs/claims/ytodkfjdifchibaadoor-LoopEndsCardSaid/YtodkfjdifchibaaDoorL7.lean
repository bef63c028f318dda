/- The law's walk: a count of any width ends after the steps told, and not before. -/
import Derived.Test.YtodkfjdifchibaaDoorL6
namespace Go.Proofs.YtodkfjdifchibaaDoor
open Go.RowKit

set_option maxRecDepth 100000 in
set_option maxHeartbeats 4000000 in
theorem ends_other (p n s t b k r : Int) (w : World) (hT : Tab w) (hu : WordsU32 [s, t, b]) (h : cntB p n s t b = true) (hs : TripsSpec p n s t b r true) (hr1 : 1 ≤ r) (hp1 : p ≠ 1) :
    Calls Tryd.prog 4 #[.agg #[.int .i64 p, .int .i64 n, .int .u32 s, .int .u32 t, .int .u32 b], .int .i64 k] w fun e w' => e = .returned (.bool true) ∧ Below w.heap.size w w' := by
  have he := eI_t h
  obtain ⟨hc, _, _⟩ := cntB_iff.1 h
  have hi := cB_iff.1 hc
  have h2 := hi.1.2
  have s0 := (hu 0 (by simp)).1; have t0 := (hu 1 (by simp)).1; have b0 := (hu 2 (by simp)).1; have tm := (hu 1 (by simp)).2
  change 0 ≤ t at t0; change t ≤ 4294967295 at tm
  have t1 : t ≤ mx n := hi.2.2 1 (by simp)
  have hrb := (ring_bd n t h2).2
  have hra := (ring_bd n t h2).1
  have hr0 := (trips_lt_ring hs h2 t0 t1).1
  have hrR := (trips_lt_ring hs h2 t0 t1).2.1
  have hend := (trips_lt_ring hs h2 t0 t1).2.2.1
  have hgo := (trips_lt_ring hs h2 t0 t1).2.2.2
  obtain ⟨f0, f1, f2, f3, f4⟩ := fives_of p n s t b k r hr1 (by omega) hgo
  have HA := Lib.hid (fun w => Trips_ok p n s t b r true w h s0 t0 b0 hs)
  have hc1 : cB n 0 [t] = true := cB_iff.2 ⟨hi.1, hi.2.1, fun k hk => by
    have hk : k < 1 := hk
    obtain rfl : k = 0 := by omega
    exact t1⟩
  have HR := Lib.hid (fun w hT => Ring_ok n t w hc1 t0 tm hT)
  have hG : ∀ x w, Fives p n s t b x → Calls Tryd.prog 12 #[.int .i64 p, .int .i64 n, .int .u32 s, .int .u32 t, .int .u32 b, .int .i64 x] w fun e w' => e = .returned (.bool true) ∧ Below w.heap.size w w' := fun x w hx => by
    have := rGoes_any p n s t b x w h hu hx.1 hx.2.1
    rwa [hx.2.2] at this
  have HG := Lib.hid hG
  have hE : ∀ w, Calls Tryd.prog 12 #[.int .i64 p, .int .i64 n, .int .u32 s, .int .u32 t, .int .u32 b, .int .i64 r] w fun e w' => e = .returned (.bool false) ∧ Below w.heap.size w w' := fun w => by
    have := rGoes_any p n s t b r w h hu hr0 (by omega)
    rwa [hend] at this
  have HE := Lib.hid hE
  have HU := Lib.hid hu
  clear h hu hs hc hi hc1 t1 hG hgo hE hend
  have HT := Lib.hid (hT.below ((Below.refl _ w).alloc (Nat.le_refl _) (.cells #[.int .i64 p, .int .i64 n, .int .u32 s, .int .u32 t, .int .u32 b] 24))); clear hT
  have HN := Lib.hid (CntCells.new w p n s t b 24)
  generalize ringV n t = R at *
  have hpb : (p == 1) = false := by simpa using hp1
  clear hp1
  have hrz : (r == 0) = false := by simp; omega
  go_enter Tryd.func4, Tryd.ntmps4
  go_wp2_with fail
  refine (HA.out _).mono ?_; rintro e w1 ⟨rfl, hb1⟩
  have hc1 := bc hb1 (b := w.heap.size) (by simp)
  go_wp2_with fail
  refine (rCounted_any _ _ _ _ _ _ HU.out).mono ?_; rintro e w2 ⟨rfl, hb2⟩
  have hb2 := hb1.trans (hb2.mono hb1.size); clear hb1 hc1
  have hc2 := bc hb2 (b := w.heap.size) (by simp)
  go_wp2_with fail
  refine (HR.out _ (HT.out.below hb2)).mono ?_; rintro e w3 ⟨rfl, hb3⟩
  have hb3 := hb2.trans (hb3.mono hb2.size); clear hb2 hc2
  have hc3 := bc hb3 (b := w.heap.size) (by simp)
  go_wp2_with fail
  refine (HE.out _).mono ?_; rintro e w4 ⟨rfl, hb4⟩
  have hb4 := hb3.trans (hb4.mono hb3.size); clear hb3 hc3
  have hc4 := bc hb4 (b := w.heap.size) (by simp)
  go_wp2_with fail
  have HB := Lib.hid hb4
  have hsz : w.heap.size < w4.heap.size := by have := hb4.size; simp at this; omega
  clear hb4 hc4
  go_loopw [13] (fun i wr => ∃ k' : Nat, k' ≤ 5 ∧ i = .int .i64 k' ∧ FiveCells wr w4.heap.size (r - 1) (r / 2) (r / 3) (wrap64 ((IntKind.u64.wrap k).tmod r)) ∧ CntCells wr w.heap.size p n s t b ∧ Below w4.heap.size w4 wr ∧ w4.heap.size < wr.heap.size) (fun i _ => 5 - (intOf i).toNat)
  case atStart => exact ⟨0, Nat.zero_le _, rfl, FiveCells.new _ _ _ _ _ _, (HN.out.below HB.out (by simp)).below ((Below.refl _ _).alloc (Nat.le_refl _) _) hsz, (Below.refl _ _).alloc (Nat.le_refl _) _, by simp⟩
  case round =>
    obtain ⟨j, hj, rfl, hfc, hcc, hbw, hsw⟩ := hrel
    have FC := Lib.hid hfc; have CC := Lib.hid hcc; have BW := Lib.hid hbw
    obtain ⟨c0, c1, c2, c3, c4⟩ := hcc
    obtain ⟨a0, a1, a2, a3, a4⟩ := hfc
    clear hbw
    by_cases hlt : j < 5
    · have hj5 : j = 0 ∨ j = 1 ∨ j = 2 ∨ j = 3 ∨ j = 4 := by omega
      rcases hj5 with rfl | rfl | rfl | rfl | rfl
      · clear a1 a2 a3 a4
        go_wp2_with fail
        go_still_tail 13, (by kernel_rfl)
        change wpList _ _ _ _ _ wr.drew
        go_wp2_with fail
        refine (HG.out _ _ f0).mono ?_; rintro e w5 ⟨rfl, hb5⟩
        go_wp2_with fail
        go_roundw
        case rel => exact ⟨1, by omega, by go_num, (FC.out).below ((Below.refl _ _).drew.trans hb5) hsw, (CC.out).below ((Below.refl _ _).drew.trans hb5) (Nat.lt_trans hsz hsw), (BW.out.drew.trans (hb5.mono BW.out.size)), Nat.lt_of_lt_of_le hsw hb5.size⟩
        case measure => simp [intOf]
      · clear a0 a2 a3 a4
        go_wp2_with fail
        go_still_tail 13, (by kernel_rfl)
        change wpList _ _ _ _ _ wr.drew
        go_wp2_with fail
        refine (HG.out _ _ f1).mono ?_; rintro e w5 ⟨rfl, hb5⟩
        go_wp2_with fail
        go_roundw
        case rel => exact ⟨2, by omega, by go_num, (FC.out).below ((Below.refl _ _).drew.trans hb5) hsw, (CC.out).below ((Below.refl _ _).drew.trans hb5) (Nat.lt_trans hsz hsw), (BW.out.drew.trans (hb5.mono BW.out.size)), Nat.lt_of_lt_of_le hsw hb5.size⟩
        case measure => simp [intOf]
      · clear a0 a1 a3 a4
        go_wp2_with fail
        go_still_tail 13, (by kernel_rfl)
        change wpList _ _ _ _ _ wr.drew
        go_wp2_with fail
        refine (HG.out _ _ f2).mono ?_; rintro e w5 ⟨rfl, hb5⟩
        go_wp2_with fail
        go_roundw
        case rel => exact ⟨3, by omega, by go_num, (FC.out).below ((Below.refl _ _).drew.trans hb5) hsw, (CC.out).below ((Below.refl _ _).drew.trans hb5) (Nat.lt_trans hsz hsw), (BW.out.drew.trans (hb5.mono BW.out.size)), Nat.lt_of_lt_of_le hsw hb5.size⟩
        case measure => simp [intOf]
      · clear a0 a1 a2 a4
        go_wp2_with fail
        go_still_tail 13, (by kernel_rfl)
        change wpList _ _ _ _ _ wr.drew
        go_wp2_with fail
        refine (HG.out _ _ f3).mono ?_; rintro e w5 ⟨rfl, hb5⟩
        go_wp2_with fail
        go_roundw
        case rel => exact ⟨4, by omega, by go_num, (FC.out).below ((Below.refl _ _).drew.trans hb5) hsw, (CC.out).below ((Below.refl _ _).drew.trans hb5) (Nat.lt_trans hsz hsw), (BW.out.drew.trans (hb5.mono BW.out.size)), Nat.lt_of_lt_of_le hsw hb5.size⟩
        case measure => simp [intOf]
      · clear a0 a1 a2 a3
        go_wp2_with fail
        go_still_tail 13, (by kernel_rfl)
        change wpList _ _ _ _ _ wr.drew
        go_wp2_with fail
        refine (HG.out _ _ f4).mono ?_; rintro e w5 ⟨rfl, hb5⟩
        go_wp2_with fail
        go_roundw
        case rel => exact ⟨5, by omega, by go_num, (FC.out).below ((Below.refl _ _).drew.trans hb5) hsw, (CC.out).below ((Below.refl _ _).drew.trans hb5) (Nat.lt_trans hsz hsw), (BW.out.drew.trans (hb5.mono BW.out.size)), Nat.lt_of_lt_of_le hsw hb5.size⟩
        case measure => simp [intOf]
    · obtain rfl : j = 5 := by omega
      clear a0 a1 a2 a3 a4
      have HBW := HB.out.trans (BW.out.mono HB.out.size)
      go_wp2_with fail
      refine (known_any _ (HT.out.below HBW)).mono ?_; rintro e w7 ⟨rfl, hb7⟩
      go_wp2_with fail
      go_ret
      exact ⟨rfl, ((Below.refl _ _).alloc (Nat.le_refl _) _).trans ((HBW.trans (hb7.mono HBW.size)).mono (by simp))⟩

theorem ends_any (p n s t b k : Int) (w : World) (hT : Tab w) (hu : WordsU32 [s, t, b]) :
    Calls Tryd.prog 4 #[.agg #[.int .i64 p, .int .i64 n, .int .u32 s, .int .u32 t, .int .u32 b], .int .i64 k] w fun e w' => e = .returned (.bool true) ∧ Below w.heap.size w w' := by
  cases h : cntB p n s t b
  · exact ends_bad p n s t b k w hT hu h
  · obtain ⟨hc, _, _⟩ := cntB_iff.1 h
    have hi := cB_iff.1 hc
    have t0 := (hu 1 (by simp)).1
    obtain ⟨r, ok, hs⟩ := trips_exists p n s t b hi.1.2 t0 (hi.2.2 1 (by simp))
    cases ok
    · have hr : r = 0 := by
        rcases hs with ⟨c, _⟩ | ⟨_, h, _⟩
        · cases c
        · exact h
      subst hr
      exact ends_never p n s t b k w hT hu h hs
    · have r0 := (trips_lt_ring hs hi.1.2 t0 (hi.2.2 1 (by simp))).1
      by_cases hr : r = 0
      · subst hr
        exact ends_zero p n s t b k w hT hu h hs
      · by_cases hp : p = 1
        · exact ends_ne p n s t b k r w hT hu h hs (by omega) hp
        · exact ends_other p n s t b k r w hT hu h hs (by omega) hp
end Go.Proofs.YtodkfjdifchibaaDoor
