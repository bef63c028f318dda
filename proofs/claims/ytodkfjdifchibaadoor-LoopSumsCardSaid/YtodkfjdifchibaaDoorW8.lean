/- Walks of the document's Trips, of known. -/
import Derived.Test.YtodkfjdifchibaaDoorW7
namespace Go.Proofs.YtodkfjdifchibaaDoor
open Go.RowKit

/-- Up to here the count goes on. -/
def GoesUpto (p n s t b : Int) (k : Nat) : Prop := ∀ j : Nat, j < k → goesB p n s t b j = true
theorem GoesUpto.succ {p n s t b : Int} {k : Nat} (h : GoesUpto p n s t b k) (g : goesB p n s t b k = true) : GoesUpto p n s t b (k + 1) := fun j hj => by
  rcases Nat.lt_or_ge j k with c | c
  · exact h j c
  · obtain rfl : j = k := by omega
    exact g
theorem ring_mul (n t : Int) (h2 : n ≤ 32) (t0 : 0 ≤ t) (t1 : t ≤ mx n) : ∃ u, ringV n t * t = 2 ^ n.toNat * u := by
  by_cases ht : t = 0
  · subst ht; exact ⟨0, by simp⟩
  · have b := mx_bd n h2
    obtain ⟨m, hm⟩ := ctz_form t (by omega) (by omega)
    have hlt := ctz_lt_w n t (by omega) h2 t1
    unfold ringV
    generalize Lib.ctz 32 t.toNat = j at *
    refine ⟨((2 * m + 1 : Nat) : Int), ?_⟩
    have e : t = 2 ^ j * ((2 * m + 1 : Nat) : Int) := by
      rw [← pow_nat, ← Int.natCast_mul, ← hm]; omega
    rw [e, ← Int.mul_assoc, ← Int.pow_add, show n.toNat - j + j = n.toNat by omega]
/-- After a whole ring everything comes again. -/
theorem after_ring (n s t k : Int) (h2 : n ≤ 32) (t0 : 0 ≤ t) (t1 : t ≤ mx n) : afterV n s t (k % ringV n t) = afterV n s t k := by
  obtain ⟨u, hu⟩ := ring_mul n t h2 t0 t1
  unfold afterV
  have e : s + k * t = s + k % ringV n t * t + 2 ^ n.toNat * (u * (k / ringV n t)) := by
    rw [← Int.mul_assoc, ← hu]
    have := Int.mul_ediv_add_emod k (ringV n t)
    have e2 : ringV n t * t * (k / ringV n t) = ringV n t * (k / ringV n t) * t := by rw [Int.mul_assoc, Int.mul_comm t, ← Int.mul_assoc]
    rw [e2, Int.add_assoc, ← Int.add_mul, Int.add_comm (k % _), this]
  rw [e, Int.add_mul_emod_self_left]
theorem goes_ring (p n s t b k : Int) (h2 : n ≤ 32) (t0 : 0 ≤ t) (t1 : t ≤ mx n) (_k0 : 0 ≤ k) :
    ∃ j : Nat, (j : Int) < ringV n t ∧ goesB p n s t b j = goesB p n s t b k := by
  have hr := ring_bd n t h2
  have m0 := Int.emod_nonneg k (show ringV n t ≠ 0 by omega)
  have m1 := Int.emod_lt_of_pos k (show 0 < ringV n t by omega)
  refine ⟨(k % ringV n t).toNat, by omega, ?_⟩
  rw [show (((k % ringV n t).toNat : Nat) : Int) = k % ringV n t by omega]
  unfold goesB
  rw [after_ring n s t k h2 t0 t1]
theorem trips_at {p n s t b : Int} {k : Nat} (h : GoesUpto p n s t b k) (g : goesB p n s t b k = false) (hk : (k : Int) < 2 ^ n.toNat) : TripsSpec p n s t b k true := by
  refine .inl ⟨rfl, by omega, hk, g, fun j j0 hj => ?_⟩
  obtain ⟨j, rfl⟩ := Int.eq_ofNat_of_zero_le j0
  rcases Nat.lt_or_ge j k with c | c
  · rw [h j c] at hj; cases hj
  · exact Int.ofNat_le.2 c
theorem trips_never {p n s t b : Int} {k : Nat} (h : GoesUpto p n s t b k) (hk : (k : Int) = ringV n t) (h2 : n ≤ 32) (t0 : 0 ≤ t) (t1 : t ≤ mx n) : TripsSpec p n s t b 0 false := by
  refine .inr ⟨rfl, rfl, fun j j0 => ?_⟩
  obtain ⟨i, hi, e⟩ := goes_ring p n s t b j h2 t0 t1 j0
  rw [← e]
  exact h i (by omega)
theorem ring_le (n t : Int) : ringV n t ≤ 2 ^ n.toNat := by
  unfold ringV
  rw [← pow_nat, ← pow_nat]
  exact Int.ofNat_le.2 (Nat.pow_le_pow_right (by decide) (by omega))

set_option maxHeartbeats 1000000 in
theorem rTrips_ok (p n s t b r : Int) (ok : Bool) (w : World) (h : cntB p n s t b = true) (hu : WordsU32 [s, t, b]) (hs : TripsSpec p n s t b r ok) :
    Calls Tryd.prog 9 #[.int .i64 p, .int .i64 n, .int .u32 s, .int .u32 t, .int .u32 b] w fun e w' => e = .returned (.tuple #[.int .i64 r, .bool ok, .int .i64 0]) ∧ Below w.heap.size w w' := by
  obtain ⟨hc, hp, hp9⟩ := cntB_iff.1 h
  have he := eI_t h
  have hi := cB_iff.1 hc
  have h2 := hi.1.2
  have t0 := (hu 1 (by simp)).1
  have t1 := (hu 1 (by simp)).2
  have t2 : t ≤ mx n := hi.2.2 1 (by simp)
  change 0 ≤ t at t0
  change t ≤ 4294967295 at t1
  have hc1 : cB n 0 [t] = true := cB_iff.2 ⟨hi.1, hi.2.1, fun k hk => by
    have hk : k < 1 := hk
    obtain rfl : k = 0 := by omega
    exact t2⟩
  have T2 := Lib.hid t2
  have HC := Lib.hid hc1; have H := Lib.hid h; have HU := Lib.hid hu; have HS := Lib.hid hs
  have hr := ring_bd n t h2
  have HL := Lib.hid (ring_le n t)
  clear hc hc1 h hu hs hi t2
  obtain ⟨R, hR⟩ : ∃ R : Nat, ringV n t = R := ⟨(ringV n t).toNat, by omega⟩
  have HR := Lib.hid hR
  have RG : Hid (∀ w, Calls Tryd.prog 19 #[.int .i64 n, .int .u32 t] w fun e w' => e = .returned (.tuple #[.int .i64 R, .int .i64 0]) ∧ Below w.heap.size w w') := Lib.hid (fun w => by
    rw [← HR.out]; exact rRing_ok n t w HC.out t0 t1)
  rw [hR] at hr
  clear hR
  obtain ⟨r1, r2⟩ := hr
  go_enter Tryd.func9, Tryd.ntmps9
  go_wp2_with (first | (go_at_call 10; refine (rCounted_any _ _ _ _ _ _ HU.out).mono ?_; rintro e w1 ⟨rfl, hb1⟩) | (go_at_call 19; refine (RG.out _).mono ?_; rintro e w2 ⟨rfl, hb2⟩))
  have hb := hb1.trans (hb2.mono hb1.size)
  clear hb1 hb2
  go_loopw [16] (fun i wr => ∃ k : Nat, k ≤ R ∧ i = .int .i64 k ∧ GoesUpto p n s t b k ∧ Below w.heap.size w wr) (fun i _ => R - (intOf i).toNat)
  case atStart => exact ⟨0, Nat.zero_le _, rfl, fun j hj => absurd hj (Nat.not_lt_zero _), hb⟩
  case round =>
    obtain ⟨k, hk, rfl, hg, hbr⟩ := hrel
    by_cases hlt : k < R
    · cases hgo : goesB p n s t b k
      · obtain ⟨rfl, rfl⟩ := trips_unique HS.out (trips_at hg hgo (by have := HL.out; have := HR.out; omega))
        go_wp2_with (first | (go_at_call 12; refine (rGoes_any _ _ _ _ _ _ _ H.out HU.out (by omega) (by omega)).mono ?_; rintro e w2 ⟨rfl, hb2⟩))
        go_ret3
        exact ⟨rfl, hbr.trans (hb2.mono hbr.size)⟩
      · go_wp2_with (first | (go_at_call 12; refine (rGoes_any _ _ _ _ _ _ _ H.out HU.out (by omega) (by omega)).mono ?_; rintro e w2 ⟨rfl, hb2⟩))
        go_roundw
        case rel => exact ⟨k + 1, by omega, by go_num, hg.succ hgo, hbr.trans (hb2.mono hbr.size)⟩
        case measure => simp [intOf]; omega
    · have e : k = R := by omega
      subst e
      obtain ⟨rfl, rfl⟩ := trips_unique HS.out (trips_never hg HR.out.symm h2 t0 T2.out)
      go_wp2
      go_ret3
      exact ⟨rfl, hbr⟩
theorem rTrips_bad (p n s t b : Int) (w : World) (h : cntB p n s t b = false) (hu : WordsU32 [s, t, b]) :
    Calls Tryd.prog 9 #[.int .i64 p, .int .i64 n, .int .u32 s, .int .u32 t, .int .u32 b] w fun e w' => e = .returned (.tuple #[.int .i64 0, .bool false, .int .i64 1]) ∧ Below w.heap.size w w' := by
  have he := eI_f h
  have HU := Lib.hid hu
  clear h hu
  go_enter Tryd.func9, Tryd.ntmps9
  go_wp2_with (first | (go_at_call 10; refine (rCounted_any _ _ _ _ _ _ HU.out).mono ?_; rintro e w1 ⟨rfl, hb1⟩))
  go_ret3
  exact ⟨rfl, hb1⟩
theorem trips_exists (p n s t b : Int) (h2 : n ≤ 32) (t0 : 0 ≤ t) (t1 : t ≤ mx n) : ∃ r ok, TripsSpec p n s t b r ok := by
  have hr := ring_bd n t h2
  have hl := ring_le n t
  by_cases h : ∃ k : Nat, (k : Int) < ringV n t ∧ goesB p n s t b k = false
  · obtain ⟨k, hk, hg⟩ := h
    have key : ∀ f k : Nat, k ≤ f → (k : Int) < ringV n t → goesB p n s t b k = false → ∃ r ok, TripsSpec p n s t b r ok := by
      intro f
      induction f with
      | zero =>
        intro k hf hk hg
        obtain rfl : k = 0 := by omega
        exact ⟨_, _, trips_at (fun j hj => absurd hj (Nat.not_lt_zero _)) hg (by omega)⟩
      | succ f ih =>
        intro k hf hk hg
        by_cases hall : ∃ j : Nat, j < k ∧ goesB p n s t b j = false
        · obtain ⟨j, hj, hjg⟩ := hall
          exact ih j (by omega) (by omega) hjg
        · refine ⟨_, _, trips_at (fun j hj => ?_) hg (by omega)⟩
          rw [← Bool.not_eq_false]
          exact fun c => hall ⟨j, hj, c⟩
    exact key k k (Nat.le_refl _) hk hg
  · refine ⟨_, _, trips_never (k := (ringV n t).toNat) (fun j hj => ?_) (by omega) h2 t0 t1⟩
    rw [← Bool.not_eq_false]
    exact fun c => h ⟨j, by omega, c⟩

theorem known1 : TripsSpec 2 8 0 3 10 4 true := by
  refine .inl ⟨rfl, by decide, by decide, by decide, fun k k0 hk => ?_⟩
  by_cases h : k = 0 ∨ k = 1 ∨ k = 2 ∨ k = 3
  · rcases h with rfl | rfl | rfl | rfl <;> exact absurd hk (by decide)
  · omega
theorem known2 : TripsSpec 1 4 0 2 5 0 false := by
  refine .inr ⟨rfl, rfl, fun k k0 => ?_⟩
  unfold goesB cmpV afterV
  rw [if_neg (by decide)]
  simp [cmpI]
  omega
set_option maxHeartbeats 1000000 in
theorem known_any (w : World) (hT : Tab w) :
    Calls Tryd.prog 7 #[] w fun e w' => e = .returned (.bool true) ∧ Below w.heap.size w w' := by
  have c1 : Hid (cB 8 4 [0, 3] = true) := Lib.hid (by decide)
  have c2 : Hid (cntB 2 8 0 3 10 = true) := Lib.hid (by decide)
  have c3 : Hid (cntB 1 4 0 2 5 = true) := Lib.hid (by decide)
  have c4 : Hid (cB 4 0 [2] = true) := Lib.hid (by decide)
  have v1 : afterV 8 0 3 4 = 12 := by decide
  have v2 : totalV 8 0 3 4 = 18 := by decide
  have v3 : ringV 4 2 = 8 := by decide
  have HT := Lib.hid hT; clear hT
  go_enter Tryd.func7, Tryd.ntmps7
  go_wp2_with fail
  refine (Trips_ok 2 8 0 3 10 4 true _ c2.out (by decide) (by decide) (by decide) known1).mono ?_; rintro e w1 ⟨rfl, hb1⟩
  go_wp2_with fail
  refine (After_ok 8 0 3 4 _ c1.out).mono ?_; rintro e w2 ⟨rfl, hb2⟩
  go_wp2_with fail
  refine (Total_ok 8 0 3 4 _ c1.out).mono ?_; rintro e w3 ⟨rfl, hb3⟩
  go_wp2_with fail
  refine (Trips_ok 1 4 0 2 5 0 false _ c3.out (by decide) (by decide) (by decide) known2).mono ?_; rintro e w4 ⟨rfl, hb4⟩
  have b := hb1.trans ((hb2.mono hb1.size).trans ((hb3.mono (Nat.le_trans hb1.size hb2.size)).trans (hb4.mono (Nat.le_trans hb1.size (Nat.le_trans hb2.size hb3.size)))))
  clear hb1 hb2 hb3 hb4
  go_wp2_with fail
  refine (Ring_ok 4 2 _ c4.out (by decide) (by decide) (HT.out.below b)).mono ?_; rintro e w5 ⟨rfl, hb5⟩
  go_wp2_with fail
  go_ret
  exact ⟨rfl, b.trans (hb5.mono b.size)⟩
end Go.Proofs.YtodkfjdifchibaaDoor
