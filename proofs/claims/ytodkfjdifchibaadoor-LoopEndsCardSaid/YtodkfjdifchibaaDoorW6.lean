/- Walks of trips, Trips, the document's. -/
import Derived.Test.YtodkfjdifchibaaDoorS
namespace Go.Proofs.YtodkfjdifchibaaDoor
open Go.RowKit

theorem mx_lt {n x : Int} : x ≤ mx n ↔ x < 2 ^ n.toNat := by unfold mx; omega

theorem until_at (p n s t b lo hi r : Int) (em ok : Bool) (hp : 2 ≤ p) (hp9 : p ≤ 9) (h1 : 1 ≤ n) (h2 : n ≤ 32)
    (t0 : 0 ≤ t) (t1 : t < 2 ^ n.toNat) (b0 : 0 ≤ b) (b1 : b < 2 ^ n.toNat)
    (ho : (predP p = 2 ∧ lo = (b + offP p n) % 2 ^ n.toNat ∧ hi = 2 ^ n.toNat - 1 ∧ em = false) ∨
      (predP p = 3 ∧ lo = (b + offP p n) % 2 ^ n.toNat + 1 ∧ hi = 2 ^ n.toNat - 1 ∧ em = ((b + offP p n) % 2 ^ n.toNat == 2 ^ n.toNat - 1)) ∨
      (predP p = 4 ∧ lo = 0 ∧ hi = (b + offP p n) % 2 ^ n.toNat ∧ em = false) ∨
      (predP p = 5 ∧ lo = 0 ∧ hi = IntKind.u64.wrap ((b + offP p n) % 2 ^ n.toNat - 1) ∧ em = ((b + offP p n) % 2 ^ n.toNat == 0)))
    (hs : TripsSpec p n s t b r ok) (w : World) :
    Calls Tryd.prog 27 #[.int .i64 n, .int .u64 ((s + offP p n) % 2 ^ n.toNat), .int .u64 t, .agg #[.int .u64 lo, .int .u64 hi, .bool em]] w fun e w' => e = .returned (.tuple #[.int .i64 r, .bool ok]) ∧ Below w.heap.size w w' := by
  have p2 := (pow_bd n h2).2
  have hpre := until_pre_ord (s := s) t0 t1 ho p2
  obtain ⟨r', ok', hu⟩ := until_exists _ _ t lo hi em hpre
  obtain ⟨rfl, rfl⟩ := trips_unique hs (trips_ord hp hp9 h1 b0 b1 ho p2 hu)
  exact until_any n _ t lo hi _ em _ w h1 h2 hpre hu
theorem and_off (p n x : Int) (h1 : 1 ≤ n) (h2 : n ≤ 32) (hp : 6 ≤ p) : bits .and .u32 ((x + 2 ^ (n.toNat - 1)) % 4294967296) (mx n) = (x + offP p n) % 2 ^ n.toNat := by
  rw [and_mx _ _ (by omega) (by omega) (by omega) h2]
  unfold offP; rw [if_pos hp]
  exact Cg.mod (pow_dvd32 n h2)
theorem and_noff (p n x : Int) (h1 : 1 ≤ n) (h2 : n ≤ 32) (hp : ¬ 6 ≤ p) (x0 : 0 ≤ x) (x1 : x < 2 ^ n.toNat) : bits .and .u32 x (mx n) = (x + offP p n) % 2 ^ n.toNat := by
  have := (pow_bd n h2).2
  rw [and_mx _ _ (by omega) (by omega) (by omega) h2]
  unfold offP; rw [if_neg hp, Int.add_zero]

set_option maxHeartbeats 1000000 in
theorem trips_any (p n s t b r : Int) (ok : Bool) (w : World) (hp : 0 ≤ p) (hp9 : p ≤ 9) (h1 : 1 ≤ n) (h2 : n ≤ 32)
    (s0 : 0 ≤ s) (s1 : s < 2 ^ n.toNat) (t0 : 0 ≤ t) (t1 : t < 2 ^ n.toNat) (b0 : 0 ≤ b) (b1 : b < 2 ^ n.toNat) (hs : TripsSpec p n s t b r ok) :
    Calls Tryd.prog 21 #[.int .i64 p, .int .i64 n, .int .u32 s, .int .u32 t, .int .u32 b] w fun e w' => e = .returned (.tuple #[.int .i64 r, .bool ok]) ∧ Below w.heap.size w w' := by
  have hw := isW_iff.2 ⟨h1, h2⟩
  obtain ⟨p1, p2⟩ := pow_bd n h2
  have s2 : s ≤ 4294967295 := by omega
  have t2 : t ≤ 4294967295 := by omega
  have b2 : b ≤ 4294967295 := by omega
  by_cases hp0 : p = 0
  · subst hp0
    by_cases he : s = b
    · obtain ⟨rfl, rfl⟩ := trips_unique hs (trips_eq h1 s0 s1 t0 t1 he)
      subst he
      clear hs
      go_enter Tryd.func21, Tryd.ntmps21
      go_wp2_with (first | (go_at_call 25; refine (Mask_ok _ _ hw).mono ?_; rintro e w' ⟨rfl, rfl⟩))
      all_goals (go_ret2; exact ⟨ret_tt (by omega) rfl, Below.refl _ _⟩)
    · obtain ⟨rfl, rfl⟩ := trips_unique hs (trips_eq0 s0 s1 he)
      clear hs
      have hne : (s != b) = true := by simpa using he
      go_enter Tryd.func21, Tryd.ntmps21
      go_wp2_with (first | (go_at_call 25; refine (Mask_ok _ _ hw).mono ?_; rintro e w' ⟨rfl, rfl⟩))
      go_ret2
      exact ⟨rfl, Below.refl _ _⟩
  by_cases hp1 : p = 1
  · subst hp1
    have hpre : UntilPre (2 ^ n.toNat) s t b b false := ⟨s0, s1, t0, t1, p2, fun _ => ⟨b0, Int.le_refl _, b1⟩⟩
    have hu : UntilSpec (2 ^ n.toNat) s t b b false r ok := by
      obtain ⟨r', ok', hu⟩ := until_exists _ s t b b false hpre
      obtain ⟨rfl, rfl⟩ := trips_unique hs (trips_ne hu)
      exact hu
    have HC := Lib.hid (fun w => until_any n s t b b r false ok w h1 h2 hpre hu)
    clear hs hu hpre
    go_enter Tryd.func21, Tryd.ntmps21
    go_wp2_with (first | (go_at_call 25; refine (Mask_ok _ _ hw).mono ?_; rintro e w' ⟨rfl, rfl⟩) | (go_at_call 27; refine (HC.out _).mono ?_; rintro e w1 ⟨rfl, hb⟩))
    go_ret2
    exact ⟨rfl, hb⟩
  by_cases h6 : 6 ≤ p
  · have h : p = 6 ∨ p = 7 ∨ p = 8 ∨ p = 9 := by omega
    rcases h with rfl | rfl | rfl | rfl
    · have HC := Lib.hid (until_at 6 n s t b _ _ r _ ok (by decide) (by decide) h1 h2 t0 t1 b0 b1 (.inl ⟨rfl, rfl, rfl, rfl⟩) hs)
      have eb := and_off 6 n b h1 h2 (by decide)
      have es := and_off 6 n s h1 h2 (by decide)
      have hb0 : 0 ≤ (b + offP 6 n) % 2 ^ n.toNat := Int.emod_nonneg _ (by omega)
      have hb1 : (b + offP 6 n) % 2 ^ n.toNat ≤ 4294967295 := by have := Int.emod_lt_of_pos (b + offP 6 n) (show 0 < (2 : Int) ^ n.toNat by omega); omega
      have hs0 : 0 ≤ (s + offP 6 n) % 2 ^ n.toNat := Int.emod_nonneg _ (by omega)
      have hs1 : (s + offP 6 n) % 2 ^ n.toNat ≤ 4294967295 := by have := Int.emod_lt_of_pos (s + offP 6 n) (show 0 < (2 : Int) ^ n.toNat by omega); omega
      generalize (b + offP 6 n) % 2 ^ n.toNat = b' at *
      generalize (s + offP 6 n) % 2 ^ n.toNat = s' at *
      have m0 : 0 ≤ mx n := (mx_bd n h2).1
      have m1 : mx n ≤ 4294967295 := (mx_bd n h2).2
      clear hs
      go_enter Tryd.func21, Tryd.ntmps21
      go_wp2_with (first | (go_at_call 25; refine (Mask_ok _ _ hw).mono ?_; rintro e w' ⟨rfl, rfl⟩))
      refine (outside2 _ _ _).mono ?_; rintro e w1 ⟨rfl, hb⟩
      go_wp2_with fail
      refine (HC.out _).mono ?_; rintro e w2 ⟨rfl, hb2⟩
      go_wp2_with fail
      go_ret2
      exact ⟨rfl, hb.trans (hb2.mono hb.size)⟩
    · have HC := Lib.hid (until_at 7 n s t b _ _ r _ ok (by decide) (by decide) h1 h2 t0 t1 b0 b1 (.inr (.inl ⟨rfl, rfl, rfl, rfl⟩)) hs)
      have eb := and_off 7 n b h1 h2 (by decide)
      have es := and_off 7 n s h1 h2 (by decide)
      have hb0 : 0 ≤ (b + offP 7 n) % 2 ^ n.toNat := Int.emod_nonneg _ (by omega)
      have hb1 : (b + offP 7 n) % 2 ^ n.toNat ≤ 4294967295 := by have := Int.emod_lt_of_pos (b + offP 7 n) (show 0 < (2 : Int) ^ n.toNat by omega); omega
      have hs0 : 0 ≤ (s + offP 7 n) % 2 ^ n.toNat := Int.emod_nonneg _ (by omega)
      have hs1 : (s + offP 7 n) % 2 ^ n.toNat ≤ 4294967295 := by have := Int.emod_lt_of_pos (s + offP 7 n) (show 0 < (2 : Int) ^ n.toNat by omega); omega
      generalize (b + offP 7 n) % 2 ^ n.toNat = b' at *
      generalize (s + offP 7 n) % 2 ^ n.toNat = s' at *
      have m0 : 0 ≤ mx n := (mx_bd n h2).1
      have m1 : mx n ≤ 4294967295 := (mx_bd n h2).2
      clear hs
      go_enter Tryd.func21, Tryd.ntmps21
      go_wp2_with (first | (go_at_call 25; refine (Mask_ok _ _ hw).mono ?_; rintro e w' ⟨rfl, rfl⟩))
      refine (outside3 _ _ _ hb0 hb1).mono ?_; rintro e w1 ⟨rfl, hb⟩
      go_wp2_with fail
      refine (HC.out _).mono ?_; rintro e w2 ⟨rfl, hb2⟩
      go_wp2_with fail
      go_ret2
      exact ⟨rfl, hb.trans (hb2.mono hb.size)⟩
    · have HC := Lib.hid (until_at 8 n s t b _ _ r _ ok (by decide) (by decide) h1 h2 t0 t1 b0 b1 (.inr (.inr (.inl ⟨rfl, rfl, rfl, rfl⟩))) hs)
      have eb := and_off 8 n b h1 h2 (by decide)
      have es := and_off 8 n s h1 h2 (by decide)
      have hb0 : 0 ≤ (b + offP 8 n) % 2 ^ n.toNat := Int.emod_nonneg _ (by omega)
      have hb1 : (b + offP 8 n) % 2 ^ n.toNat ≤ 4294967295 := by have := Int.emod_lt_of_pos (b + offP 8 n) (show 0 < (2 : Int) ^ n.toNat by omega); omega
      have hs0 : 0 ≤ (s + offP 8 n) % 2 ^ n.toNat := Int.emod_nonneg _ (by omega)
      have hs1 : (s + offP 8 n) % 2 ^ n.toNat ≤ 4294967295 := by have := Int.emod_lt_of_pos (s + offP 8 n) (show 0 < (2 : Int) ^ n.toNat by omega); omega
      generalize (b + offP 8 n) % 2 ^ n.toNat = b' at *
      generalize (s + offP 8 n) % 2 ^ n.toNat = s' at *
      have m0 : 0 ≤ mx n := (mx_bd n h2).1
      have m1 : mx n ≤ 4294967295 := (mx_bd n h2).2
      clear hs
      go_enter Tryd.func21, Tryd.ntmps21
      go_wp2_with (first | (go_at_call 25; refine (Mask_ok _ _ hw).mono ?_; rintro e w' ⟨rfl, rfl⟩))
      refine (outside4 _ _ _).mono ?_; rintro e w1 ⟨rfl, hb⟩
      go_wp2_with fail
      refine (HC.out _).mono ?_; rintro e w2 ⟨rfl, hb2⟩
      go_wp2_with fail
      go_ret2
      exact ⟨rfl, hb.trans (hb2.mono hb.size)⟩
    · have HC := Lib.hid (until_at 9 n s t b _ _ r _ ok (by decide) (by decide) h1 h2 t0 t1 b0 b1 (.inr (.inr (.inr ⟨rfl, rfl, rfl, rfl⟩))) hs)
      have eb := and_off 9 n b h1 h2 (by decide)
      have es := and_off 9 n s h1 h2 (by decide)
      have hb0 : 0 ≤ (b + offP 9 n) % 2 ^ n.toNat := Int.emod_nonneg _ (by omega)
      have hb1 : (b + offP 9 n) % 2 ^ n.toNat ≤ 4294967295 := by have := Int.emod_lt_of_pos (b + offP 9 n) (show 0 < (2 : Int) ^ n.toNat by omega); omega
      have hs0 : 0 ≤ (s + offP 9 n) % 2 ^ n.toNat := Int.emod_nonneg _ (by omega)
      have hs1 : (s + offP 9 n) % 2 ^ n.toNat ≤ 4294967295 := by have := Int.emod_lt_of_pos (s + offP 9 n) (show 0 < (2 : Int) ^ n.toNat by omega); omega
      generalize (b + offP 9 n) % 2 ^ n.toNat = b' at *
      generalize (s + offP 9 n) % 2 ^ n.toNat = s' at *
      have m0 : 0 ≤ mx n := (mx_bd n h2).1
      have m1 : mx n ≤ 4294967295 := (mx_bd n h2).2
      clear hs
      go_enter Tryd.func21, Tryd.ntmps21
      go_wp2_with (first | (go_at_call 25; refine (Mask_ok _ _ hw).mono ?_; rintro e w' ⟨rfl, rfl⟩))
      refine (outside5 _ _ _).mono ?_; rintro e w1 ⟨rfl, hb⟩
      go_wp2_with fail
      refine (HC.out _).mono ?_; rintro e w2 ⟨rfl, hb2⟩
      go_wp2_with fail
      go_ret2
      exact ⟨rfl, hb.trans (hb2.mono hb.size)⟩
  · have h : p = 2 ∨ p = 3 ∨ p = 4 ∨ p = 5 := by omega
    rcases h with rfl | rfl | rfl | rfl
    · have HC := Lib.hid (until_at 2 n s t b _ _ r _ ok (by decide) (by decide) h1 h2 t0 t1 b0 b1 (.inl ⟨rfl, rfl, rfl, rfl⟩) hs)
      have eb := and_noff 2 n b h1 h2 (by decide) b0 b1
      have es := and_noff 2 n s h1 h2 (by decide) s0 s1
      have hb0 : 0 ≤ (b + offP 2 n) % 2 ^ n.toNat := Int.emod_nonneg _ (by omega)
      have hb1 : (b + offP 2 n) % 2 ^ n.toNat ≤ 4294967295 := by have := Int.emod_lt_of_pos (b + offP 2 n) (show 0 < (2 : Int) ^ n.toNat by omega); omega
      have hs0 : 0 ≤ (s + offP 2 n) % 2 ^ n.toNat := Int.emod_nonneg _ (by omega)
      have hs1 : (s + offP 2 n) % 2 ^ n.toNat ≤ 4294967295 := by have := Int.emod_lt_of_pos (s + offP 2 n) (show 0 < (2 : Int) ^ n.toNat by omega); omega
      generalize (b + offP 2 n) % 2 ^ n.toNat = b' at *
      generalize (s + offP 2 n) % 2 ^ n.toNat = s' at *
      have m0 : 0 ≤ mx n := (mx_bd n h2).1
      have m1 : mx n ≤ 4294967295 := (mx_bd n h2).2
      clear hs
      go_enter Tryd.func21, Tryd.ntmps21
      go_wp2_with (first | (go_at_call 25; refine (Mask_ok _ _ hw).mono ?_; rintro e w' ⟨rfl, rfl⟩))
      refine (outside2 _ _ _).mono ?_; rintro e w1 ⟨rfl, hb⟩
      go_wp2_with fail
      refine (HC.out _).mono ?_; rintro e w2 ⟨rfl, hb2⟩
      go_wp2_with fail
      go_ret2
      exact ⟨rfl, hb.trans (hb2.mono hb.size)⟩
    · have HC := Lib.hid (until_at 3 n s t b _ _ r _ ok (by decide) (by decide) h1 h2 t0 t1 b0 b1 (.inr (.inl ⟨rfl, rfl, rfl, rfl⟩)) hs)
      have eb := and_noff 3 n b h1 h2 (by decide) b0 b1
      have es := and_noff 3 n s h1 h2 (by decide) s0 s1
      have hb0 : 0 ≤ (b + offP 3 n) % 2 ^ n.toNat := Int.emod_nonneg _ (by omega)
      have hb1 : (b + offP 3 n) % 2 ^ n.toNat ≤ 4294967295 := by have := Int.emod_lt_of_pos (b + offP 3 n) (show 0 < (2 : Int) ^ n.toNat by omega); omega
      have hs0 : 0 ≤ (s + offP 3 n) % 2 ^ n.toNat := Int.emod_nonneg _ (by omega)
      have hs1 : (s + offP 3 n) % 2 ^ n.toNat ≤ 4294967295 := by have := Int.emod_lt_of_pos (s + offP 3 n) (show 0 < (2 : Int) ^ n.toNat by omega); omega
      generalize (b + offP 3 n) % 2 ^ n.toNat = b' at *
      generalize (s + offP 3 n) % 2 ^ n.toNat = s' at *
      have m0 : 0 ≤ mx n := (mx_bd n h2).1
      have m1 : mx n ≤ 4294967295 := (mx_bd n h2).2
      clear hs
      go_enter Tryd.func21, Tryd.ntmps21
      go_wp2_with (first | (go_at_call 25; refine (Mask_ok _ _ hw).mono ?_; rintro e w' ⟨rfl, rfl⟩))
      refine (outside3 _ _ _ hb0 hb1).mono ?_; rintro e w1 ⟨rfl, hb⟩
      go_wp2_with fail
      refine (HC.out _).mono ?_; rintro e w2 ⟨rfl, hb2⟩
      go_wp2_with fail
      go_ret2
      exact ⟨rfl, hb.trans (hb2.mono hb.size)⟩
    · have HC := Lib.hid (until_at 4 n s t b _ _ r _ ok (by decide) (by decide) h1 h2 t0 t1 b0 b1 (.inr (.inr (.inl ⟨rfl, rfl, rfl, rfl⟩))) hs)
      have eb := and_noff 4 n b h1 h2 (by decide) b0 b1
      have es := and_noff 4 n s h1 h2 (by decide) s0 s1
      have hb0 : 0 ≤ (b + offP 4 n) % 2 ^ n.toNat := Int.emod_nonneg _ (by omega)
      have hb1 : (b + offP 4 n) % 2 ^ n.toNat ≤ 4294967295 := by have := Int.emod_lt_of_pos (b + offP 4 n) (show 0 < (2 : Int) ^ n.toNat by omega); omega
      have hs0 : 0 ≤ (s + offP 4 n) % 2 ^ n.toNat := Int.emod_nonneg _ (by omega)
      have hs1 : (s + offP 4 n) % 2 ^ n.toNat ≤ 4294967295 := by have := Int.emod_lt_of_pos (s + offP 4 n) (show 0 < (2 : Int) ^ n.toNat by omega); omega
      generalize (b + offP 4 n) % 2 ^ n.toNat = b' at *
      generalize (s + offP 4 n) % 2 ^ n.toNat = s' at *
      have m0 : 0 ≤ mx n := (mx_bd n h2).1
      have m1 : mx n ≤ 4294967295 := (mx_bd n h2).2
      clear hs
      go_enter Tryd.func21, Tryd.ntmps21
      go_wp2_with (first | (go_at_call 25; refine (Mask_ok _ _ hw).mono ?_; rintro e w' ⟨rfl, rfl⟩))
      refine (outside4 _ _ _).mono ?_; rintro e w1 ⟨rfl, hb⟩
      go_wp2_with fail
      refine (HC.out _).mono ?_; rintro e w2 ⟨rfl, hb2⟩
      go_wp2_with fail
      go_ret2
      exact ⟨rfl, hb.trans (hb2.mono hb.size)⟩
    · have HC := Lib.hid (until_at 5 n s t b _ _ r _ ok (by decide) (by decide) h1 h2 t0 t1 b0 b1 (.inr (.inr (.inr ⟨rfl, rfl, rfl, rfl⟩))) hs)
      have eb := and_noff 5 n b h1 h2 (by decide) b0 b1
      have es := and_noff 5 n s h1 h2 (by decide) s0 s1
      have hb0 : 0 ≤ (b + offP 5 n) % 2 ^ n.toNat := Int.emod_nonneg _ (by omega)
      have hb1 : (b + offP 5 n) % 2 ^ n.toNat ≤ 4294967295 := by have := Int.emod_lt_of_pos (b + offP 5 n) (show 0 < (2 : Int) ^ n.toNat by omega); omega
      have hs0 : 0 ≤ (s + offP 5 n) % 2 ^ n.toNat := Int.emod_nonneg _ (by omega)
      have hs1 : (s + offP 5 n) % 2 ^ n.toNat ≤ 4294967295 := by have := Int.emod_lt_of_pos (s + offP 5 n) (show 0 < (2 : Int) ^ n.toNat by omega); omega
      generalize (b + offP 5 n) % 2 ^ n.toNat = b' at *
      generalize (s + offP 5 n) % 2 ^ n.toNat = s' at *
      have m0 : 0 ≤ mx n := (mx_bd n h2).1
      have m1 : mx n ≤ 4294967295 := (mx_bd n h2).2
      clear hs
      go_enter Tryd.func21, Tryd.ntmps21
      go_wp2_with (first | (go_at_call 25; refine (Mask_ok _ _ hw).mono ?_; rintro e w' ⟨rfl, rfl⟩))
      refine (outside5 _ _ _).mono ?_; rintro e w1 ⟨rfl, hb⟩
      go_wp2_with fail
      refine (HC.out _).mono ?_; rintro e w2 ⟨rfl, hb2⟩
      go_wp2_with fail
      go_ret2
      exact ⟨rfl, hb.trans (hb2.mono hb.size)⟩
end Go.Proofs.YtodkfjdifchibaaDoor
