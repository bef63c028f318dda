/- The law's walk: a count of any width ends after the steps told, and not before. -/
import Derived.Test.YtodkfjdifchibaaDoorL4
namespace Go.Proofs.YtodkfjdifchibaaDoor
open Go.RowKit

/-- What the loop over five numbers of steps needs. -/
def Fives (p n s t b x : Int) : Prop := 0 ≤ x ∧ x ≤ 4294967296 ∧ goesB p n s t b x = true
theorem fives_of (p n s t b k B : Int) (h1 : 1 ≤ B) (h2 : B ≤ 4294967296) (hg : ∀ k, 0 ≤ k → k < B → goesB p n s t b k = true) :
    Fives p n s t b 0 ∧ Fives p n s t b (B - 1) ∧ Fives p n s t b (B / 2) ∧ Fives p n s t b (B / 3) ∧ Fives p n s t b (wrap64 ((IntKind.u64.wrap k).tmod B)) := by
  have q0 : 0 ≤ IntKind.u64.wrap k := u64_nonneg k
  have e : (IntKind.u64.wrap k).tmod B = IntKind.u64.wrap k % B := Int.tmod_eq_emod_of_nonneg q0
  have m0 := Int.emod_nonneg (IntKind.u64.wrap k) (show B ≠ 0 by omega)
  have m1 := Int.emod_lt_of_pos (IntKind.u64.wrap k) (show 0 < B by omega)
  have e2 : wrap64 ((IntKind.u64.wrap k).tmod B) = IntKind.u64.wrap k % B := by rw [e]; exact IntWalk.wrap64_in _ (by omega)
  rw [e2]
  exact ⟨⟨by omega, by omega, hg _ (by omega) (by omega)⟩, ⟨by omega, by omega, hg _ (by omega) (by omega)⟩, ⟨by omega, by omega, hg _ (by omega) (by omega)⟩, ⟨by omega, by omega, hg _ (by omega) (by omega)⟩, ⟨m0, by omega, hg _ m0 m1⟩⟩
/-- The five numbers lie in their array. -/
def FiveCells (w : World) (q : Nat) (x1 x2 x3 x4 : Int) : Prop :=
  w.cell? ⟨q, 0, none⟩ = some (.int .i64 0) ∧ w.cell? ⟨q, 1, none⟩ = some (.int .i64 x1) ∧ w.cell? ⟨q, 2, none⟩ = some (.int .i64 x2) ∧ w.cell? ⟨q, 3, none⟩ = some (.int .i64 x3) ∧ w.cell? ⟨q, 4, none⟩ = some (.int .i64 x4)
/-- The count lies in its box. -/
def CntCells (w : World) (q : Nat) (p n s t b : Int) : Prop :=
  w.cell? ⟨q, 0, none⟩ = some (.int .i64 p) ∧ w.cell? ⟨q, 1, none⟩ = some (.int .i64 n) ∧ w.cell? ⟨q, 2, none⟩ = some (.int .u32 s) ∧ w.cell? ⟨q, 3, none⟩ = some (.int .u32 t) ∧ w.cell? ⟨q, 4, none⟩ = some (.int .u32 b)
theorem FiveCells.below {W w : World} {q : Nat} {x1 x2 x3 x4 : Int} (h : FiveCells W q x1 x2 x3 x4) (hb : Below W.heap.size W w) (hq : q < W.heap.size) : FiveCells w q x1 x2 x3 x4 := by
  have := bc hb hq
  unfold FiveCells at *; rw [this, this, this, this, this]; exact h
theorem CntCells.below {W w : World} {q : Nat} {p n s t b : Int} (h : CntCells W q p n s t b) (hb : Below W.heap.size W w) (hq : q < W.heap.size) : CntCells w q p n s t b := by
  have := bc hb hq
  unfold CntCells at *; rw [this, this, this, this, this]; exact h
theorem CntCells.new (w : World) (p n s t b : Int) (T : TypeId) : CntCells (w.alloc (.cells #[.int .i64 p, .int .i64 n, .int .u32 s, .int .u32 t, .int .u32 b] T)) w.heap.size p n s t b := by
  unfold CntCells; simp [go_sem]
theorem FiveCells.new (w : World) (x1 x2 x3 x4 : Int) (T : TypeId) : FiveCells (w.alloc (.cells #[.int .i64 0, .int .i64 x1, .int .i64 x2, .int .i64 x3, .int .i64 x4] T)) w.heap.size x1 x2 x3 x4 := by
  unfold FiveCells; simp [go_sem]
theorem ne_bound {n s t b r : Int} (h : goesB 1 n s t b r = false) : afterV n s t r = b := by
  unfold goesB cmpV at h
  rw [if_neg (by decide)] at h
  simpa [cmpI] using h

set_option maxRecDepth 100000 in
set_option maxHeartbeats 4000000 in
theorem ends_never (p n s t b k : Int) (w : World) (hT : Tab w) (hu : WordsU32 [s, t, b]) (h : cntB p n s t b = true) (hs : TripsSpec p n s t b 0 false) :
    Calls Tryd.prog 4 #[.agg #[.int .i64 p, .int .i64 n, .int .u32 s, .int .u32 t, .int .u32 b], .int .i64 k] w fun e w' => e = .returned (.bool true) ∧ Below w.heap.size w w' := by
  have he := eI_t h
  obtain ⟨hc, _, _⟩ := cntB_iff.1 h
  have hi := cB_iff.1 hc
  have h2 := hi.1.2
  have s0 := (hu 0 (by simp)).1; have t0 := (hu 1 (by simp)).1; have b0 := (hu 2 (by simp)).1; have tm := (hu 1 (by simp)).2
  change 0 ≤ t at t0; change t ≤ 4294967295 at tm
  have t1 : t ≤ mx n := hi.2.2 1 (by simp)
  have hrb := (ring_bd n t h2).2
  have hra := (ring_bd n t h2).1
  have hgo : ∀ k, 0 ≤ k → k < ringV n t → goesB p n s t b k = true := by
    rcases hs with ⟨c, _⟩ | ⟨_, _, h3⟩
    · cases c
    · exact fun k k0 _ => h3 k k0
  obtain ⟨f0, f1, f2, f3, f4⟩ := fives_of p n s t b k (ringV n t) hra hrb hgo
  have HA := Lib.hid (fun w => Trips_ok p n s t b 0 false w h s0 t0 b0 hs)
  have hc1 : cB n 0 [t] = true := cB_iff.2 ⟨hi.1, hi.2.1, fun k hk => by
    have hk : k < 1 := hk
    obtain rfl : k = 0 := by omega
    exact t1⟩
  have HR := Lib.hid (fun w hT => Ring_ok n t w hc1 t0 tm hT)
  have hG : ∀ x w, Fives p n s t b x → Calls Tryd.prog 12 #[.int .i64 p, .int .i64 n, .int .u32 s, .int .u32 t, .int .u32 b, .int .i64 x] w fun e w' => e = .returned (.bool true) ∧ Below w.heap.size w w' := fun x w hx => by
    have := rGoes_any p n s t b x w h hu hx.1 hx.2.1
    rwa [hx.2.2] at this
  have HG := Lib.hid hG
  have HU := Lib.hid hu
  clear h hu hs hc hi hc1 t1 hG hgo
  have HT := Lib.hid (hT.below ((Below.refl _ w).alloc (Nat.le_refl _) (.cells #[.int .i64 p, .int .i64 n, .int .u32 s, .int .u32 t, .int .u32 b] 24))); clear hT
  have HN := Lib.hid (CntCells.new w p n s t b 24)
  generalize ringV n t = R at *
  have hrz : (R == 0) = false := by simp; omega
  go_enter Tryd.func4, Tryd.ntmps4
  go_wp2_with fail
  refine (HA.out _).mono ?_; rintro e w1 ⟨rfl, hb1⟩
  have hc1 := bc hb1 (b := w.heap.size) (by simp)
  go_wp2_with fail
  refine (rCounted_any _ _ _ _ _ _ HU.out).mono ?_; rintro e w2 ⟨rfl, hb2⟩
  have hb2 := hb1.trans (hb2.mono hb1.size); clear hb1 hc1
  have hc2 := bc hb2 (b := w.heap.size) (by simp)
  go_wp2_with fail
  refine (HR.out _ (HT.out.below hb2)).mono ?_; rintro e w3 ⟨rfl, hb3⟩
  have hb3 := hb2.trans (hb3.mono hb2.size); clear hb2 hc2
  have hc3 := bc hb3 (b := w.heap.size) (by simp)
  go_wp2_with fail
  have HB := Lib.hid hb3
  have hsz : w.heap.size < w3.heap.size := by have := hb3.size; simp at this; omega
  clear hb3 hc3
  go_loopw [13] (fun i wr => ∃ k' : Nat, k' ≤ 5 ∧ i = .int .i64 k' ∧ FiveCells wr w3.heap.size (R - 1) (R / 2) (R / 3) (wrap64 ((IntKind.u64.wrap k).tmod R)) ∧ CntCells wr w.heap.size p n s t b ∧ Below w3.heap.size w3 wr ∧ w3.heap.size < wr.heap.size) (fun i _ => 5 - (intOf i).toNat)
  case atStart => exact ⟨0, Nat.zero_le _, rfl, FiveCells.new _ _ _ _ _ _, (HN.out.below HB.out (by simp)).below ((Below.refl _ _).alloc (Nat.le_refl _) _) hsz, (Below.refl _ _).alloc (Nat.le_refl _) _, by simp⟩
  case round =>
    obtain ⟨j, hj, rfl, hfc, hcc, hbw, hsw⟩ := hrel
    have FC := Lib.hid hfc; have CC := Lib.hid hcc; have BW := Lib.hid hbw
    obtain ⟨c0, c1, c2, c3, c4⟩ := hcc
    obtain ⟨a0, a1, a2, a3, a4⟩ := hfc
    clear hbw
    by_cases hlt : j < 5
    · have hj5 : j = 0 ∨ j = 1 ∨ j = 2 ∨ j = 3 ∨ j = 4 := by omega
      rcases hj5 with rfl | rfl | rfl | rfl | rfl
      · clear a1 a2 a3 a4
        go_wp2_with fail
        go_still_tail 13, (by kernel_rfl)
        change wpList _ _ _ _ _ wr.drew
        go_wp2_with fail
        refine (HG.out _ _ f0).mono ?_; rintro e w5 ⟨rfl, hb5⟩
        go_wp2_with fail
        go_roundw
        case rel => exact ⟨1, by omega, by go_num, (FC.out).below ((Below.refl _ _).drew.trans hb5) hsw, (CC.out).below ((Below.refl _ _).drew.trans hb5) (Nat.lt_trans hsz hsw), (BW.out.drew.trans (hb5.mono BW.out.size)), Nat.lt_of_lt_of_le hsw hb5.size⟩
        case measure => simp [intOf]
      · clear a0 a2 a3 a4
        go_wp2_with fail
        go_still_tail 13, (by kernel_rfl)
        change wpList _ _ _ _ _ wr.drew
        go_wp2_with fail
        refine (HG.out _ _ f1).mono ?_; rintro e w5 ⟨rfl, hb5⟩
        go_wp2_with fail
        go_roundw
        case rel => exact ⟨2, by omega, by go_num, (FC.out).below ((Below.refl _ _).drew.trans hb5) hsw, (CC.out).below ((Below.refl _ _).drew.trans hb5) (Nat.lt_trans hsz hsw), (BW.out.drew.trans (hb5.mono BW.out.size)), Nat.lt_of_lt_of_le hsw hb5.size⟩
        case measure => simp [intOf]
      · clear a0 a1 a3 a4
        go_wp2_with fail
        go_still_tail 13, (by kernel_rfl)
        change wpList _ _ _ _ _ wr.drew
        go_wp2_with fail
        refine (HG.out _ _ f2).mono ?_; rintro e w5 ⟨rfl, hb5⟩
        go_wp2_with fail
        go_roundw
        case rel => exact ⟨3, by omega, by go_num, (FC.out).below ((Below.refl _ _).drew.trans hb5) hsw, (CC.out).below ((Below.refl _ _).drew.trans hb5) (Nat.lt_trans hsz hsw), (BW.out.drew.trans (hb5.mono BW.out.size)), Nat.lt_of_lt_of_le hsw hb5.size⟩
        case measure => simp [intOf]
      · clear a0 a1 a2 a4
        go_wp2_with fail
        go_still_tail 13, (by kernel_rfl)
        change wpList _ _ _ _ _ wr.drew
        go_wp2_with fail
        refine (HG.out _ _ f3).mono ?_; rintro e w5 ⟨rfl, hb5⟩
        go_wp2_with fail
        go_roundw
        case rel => exact ⟨4, by omega, by go_num, (FC.out).below ((Below.refl _ _).drew.trans hb5) hsw, (CC.out).below ((Below.refl _ _).drew.trans hb5) (Nat.lt_trans hsz hsw), (BW.out.drew.trans (hb5.mono BW.out.size)), Nat.lt_of_lt_of_le hsw hb5.size⟩
        case measure => simp [intOf]
      · clear a0 a1 a2 a3
        go_wp2_with fail
        go_still_tail 13, (by kernel_rfl)
        change wpList _ _ _ _ _ wr.drew
        go_wp2_with fail
        refine (HG.out _ _ f4).mono ?_; rintro e w5 ⟨rfl, hb5⟩
        go_wp2_with fail
        go_roundw
        case rel => exact ⟨5, by omega, by go_num, (FC.out).below ((Below.refl _ _).drew.trans hb5) hsw, (CC.out).below ((Below.refl _ _).drew.trans hb5) (Nat.lt_trans hsz hsw), (BW.out.drew.trans (hb5.mono BW.out.size)), Nat.lt_of_lt_of_le hsw hb5.size⟩
        case measure => simp [intOf]
    · obtain rfl : j = 5 := by omega
      clear a0 a1 a2 a3 a4
      have HBW := HB.out.trans (BW.out.mono HB.out.size)
      go_wp2_with fail
      refine (known_any _ (HT.out.below HBW)).mono ?_; rintro e w7 ⟨rfl, hb7⟩
      go_wp2_with fail
      go_ret
      exact ⟨rfl, ((Below.refl _ _).alloc (Nat.le_refl _) _).trans ((HBW.trans (hb7.mono HBW.size)).mono (by simp))⟩

end Go.Proofs.YtodkfjdifchibaaDoor
