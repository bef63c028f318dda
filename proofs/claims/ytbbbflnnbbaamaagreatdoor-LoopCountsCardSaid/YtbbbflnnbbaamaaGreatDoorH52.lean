/- Packed of several texts. -/
import Derived.Test.YtbbbflnnbbaamaaGreatDoorH51
import Derived.Test.YtbbbflnnbbaamaaGreatDoorH48
import Derived.Test.YtbbbflnnbbaamaaGreatDoorH45
import Derived.Test.YtbbbflnnbbaamaaGreatDoorH46
import Derived.KernelRfl
namespace Go.Proofs.YtbbbflnnbbaamaaGreatDoor
open Go.RowKit

theorem mx_lt {n x : Int} : x ≤ mx n ↔ x < 2 ^ n.toNat := by unfold mx; omega

theorem until_at (p n s t b lo hi r : Int) (em ok : Bool) (hp : 2 ≤ p) (hp9 : p ≤ 9) (h1 : 1 ≤ n) (h2 : n ≤ 32)
  (t0 : 0 ≤ t) (t1 : t < 2 ^ n.toNat) (b0 : 0 ≤ b) (b1 : b < 2 ^ n.toNat)
  (ho : (predP p = 2 ∧ lo = (b + offP p n) % 2 ^ n.toNat ∧ hi = 2 ^ n.toNat - 1 ∧ em = false) ∨
   (predP p = 3 ∧ lo = (b + offP p n) % 2 ^ n.toNat + 1 ∧ hi = 2 ^ n.toNat - 1 ∧ em = ((b + offP p n) % 2 ^ n.toNat == 2 ^ n.toNat - 1)) ∨
   (predP p = 4 ∧ lo = 0 ∧ hi = (b + offP p n) % 2 ^ n.toNat ∧ em = false) ∨
   (predP p = 5 ∧ lo = 0 ∧ hi = IntKind.u64.wrap ((b + offP p n) % 2 ^ n.toNat - 1) ∧ em = ((b + offP p n) % 2 ^ n.toNat == 0)))
  (hs : TripsSpec p n s t b r ok) (w : World) :
  Calls Tryz.prog 47 #[.int .i64 n, .int .u64 ((s + offP p n) % 2 ^ n.toNat), .int .u64 t, .agg #[.int .u64 lo, .int .u64 hi, .bool em]] w fun e w' => e = .returned (.tuple #[.int .i64 r, .bool ok]) ∧ Below w.heap.size w w' := by
 have p2 := (pow_bd n h2).2
 have hpre := until_pre_ord (s := s) t0 t1 ho p2
 obtain ⟨r', ok', hu⟩ := until_exists _ _ t lo hi em hpre
 obtain ⟨rfl, rfl⟩ := trips_unique hs (trips_ord hp hp9 h1 b0 b1 ho p2 hu)
 exact until_any n _ t lo hi _ em _ w h1 h2 hpre hu
theorem and_off (p n x : Int) (h1 : 1 ≤ n) (h2 : n ≤ 32) (hp : 6 ≤ p) : bits .and .u32 ((x + 2 ^ (n.toNat - 1)) % 4294967296) (mx n) = (x + offP p n) % 2 ^ n.toNat := by
 rw [and_mx _ _ (by omega) (by omega) (by omega) h2]
 unfold offP; rw [if_pos hp]
 exact Cg.mod (pow_dvd32 n h2)
theorem and_noff (p n x : Int) (h1 : 1 ≤ n) (h2 : n ≤ 32) (hp : ¬ 6 ≤ p) (x0 : 0 ≤ x) (x1 : x < 2 ^ n.toNat) : bits .and .u32 x (mx n) = (x + offP p n) % 2 ^ n.toNat := by
 have := (pow_bd n h2).2
 rw [and_mx _ _ (by omega) (by omega) (by omega) h2]
 unfold offP; rw [if_neg hp, Int.add_zero]

set_option maxHeartbeats 1000000 in
theorem trips_any (p n s t b r : Int) (ok : Bool) (w : World) (hp : 0 ≤ p) (hp9 : p ≤ 9) (h1 : 1 ≤ n) (h2 : n ≤ 32)
  (s0 : 0 ≤ s) (s1 : s < 2 ^ n.toNat) (t0 : 0 ≤ t) (t1 : t < 2 ^ n.toNat) (b0 : 0 ≤ b) (b1 : b < 2 ^ n.toNat) (hs : TripsSpec p n s t b r ok) :
  Calls Tryz.prog 24 #[.int .i64 p, .int .i64 n, .int .u32 s, .int .u32 t, .int .u32 b] w fun e w' => e = .returned (.tuple #[.int .i64 r, .bool ok]) ∧ Below w.heap.size w w' := by
 have hw := isW_iff.2 ⟨h1, h2⟩
 obtain ⟨p1, p2⟩ := pow_bd n h2
 have s2 : s ≤ 4294967295 := by omega
 have t2 : t ≤ 4294967295 := by omega
 have b2 : b ≤ 4294967295 := by omega
 by_cases hp0 : p = 0
 ·subst hp0
  by_cases he : s = b
  ·obtain ⟨rfl, rfl⟩ := trips_unique hs (trips_eq h1 s0 s1 t0 t1 he)
   subst he
   clear hs
   go_enter Tryz.func24, Tryz.ntmps24
   go_wp2_with (first | (go_at_call 34; refine (Mask_ok _ _ hw).mono ?_; rintro e w' ⟨rfl, rfl⟩))
   all_goals (go_ret2; exact ⟨ret_tt (by omega) rfl, Below.refl _ _⟩)
  ·obtain ⟨rfl, rfl⟩ := trips_unique hs (trips_eq0 s0 s1 he)
   clear hs
   have hne : (s != b) = true := by simpa using he
   go_enter Tryz.func24, Tryz.ntmps24
   go_wp2_with (first | (go_at_call 34; refine (Mask_ok _ _ hw).mono ?_; rintro e w' ⟨rfl, rfl⟩))
   go_ret2
   exact ⟨rfl, Below.refl _ _⟩
 by_cases hp1 : p = 1
 ·subst hp1
  have hpre : UntilPre (2 ^ n.toNat) s t b b false := ⟨s0, s1, t0, t1, p2, fun _ => ⟨b0, Int.le_refl _, b1⟩⟩
  have hu : UntilSpec (2 ^ n.toNat) s t b b false r ok := by
   obtain ⟨r', ok', hu⟩ := until_exists _ s t b b false hpre
   obtain ⟨rfl, rfl⟩ := trips_unique hs (trips_ne hu)
   exact hu
  have HC := Lib.hid (fun w => until_any n s t b b r false ok w h1 h2 hpre hu)
  clear hs hu hpre
  go_enter Tryz.func24, Tryz.ntmps24
  go_wp2_with (first | (go_at_call 34; refine (Mask_ok _ _ hw).mono ?_; rintro e w' ⟨rfl, rfl⟩) | (go_at_call 47; refine (HC.out _).mono ?_; rintro e w1 ⟨rfl, hb⟩))
  go_ret2
  exact ⟨rfl, hb⟩
 by_cases h6 : 6 ≤ p
 ·have h : p = 6 ∨ p = 7 ∨ p = 8 ∨ p = 9 := by omega
  rcases h with rfl | rfl | rfl | rfl
  ·have HC := Lib.hid (until_at 6 n s t b _ _ r _ ok (by decide) (by decide) h1 h2 t0 t1 b0 b1 (.inl ⟨rfl, rfl, rfl, rfl⟩) hs)
   have eb := and_off 6 n b h1 h2 (by decide)
   have es := and_off 6 n s h1 h2 (by decide)
   have hb0 : 0 ≤ (b + offP 6 n) % 2 ^ n.toNat := Int.emod_nonneg _ (by omega)
   have hb1 : (b + offP 6 n) % 2 ^ n.toNat ≤ 4294967295 := by have := Int.emod_lt_of_pos (b + offP 6 n) (show 0 < (2 : Int) ^ n.toNat by omega); omega
   have hs0 : 0 ≤ (s + offP 6 n) % 2 ^ n.toNat := Int.emod_nonneg _ (by omega)
   have hs1 : (s + offP 6 n) % 2 ^ n.toNat ≤ 4294967295 := by have := Int.emod_lt_of_pos (s + offP 6 n) (show 0 < (2 : Int) ^ n.toNat by omega); omega
   generalize (b + offP 6 n) % 2 ^ n.toNat = b' at *
   generalize (s + offP 6 n) % 2 ^ n.toNat = s' at *
   have m0 : 0 ≤ mx n := (mx_bd n h2).1
   have m1 : mx n ≤ 4294967295 := (mx_bd n h2).2
   clear hs
   go_enter Tryz.func24, Tryz.ntmps24
   go_wp2_with (first | (go_at_call 34; refine (Mask_ok _ _ hw).mono ?_; rintro e w' ⟨rfl, rfl⟩))
   refine (outside2 _ _ _).mono ?_; rintro e w1 ⟨rfl, hb⟩
   go_wp2_with fail
   refine (HC.out _).mono ?_; rintro e w2 ⟨rfl, hb2⟩
   go_wp2_with fail
   go_ret2
   exact ⟨rfl, hb.trans (hb2.mono hb.size)⟩
  ·have HC := Lib.hid (until_at 7 n s t b _ _ r _ ok (by decide) (by decide) h1 h2 t0 t1 b0 b1 (.inr (.inl ⟨rfl, rfl, rfl, rfl⟩)) hs)
   have eb := and_off 7 n b h1 h2 (by decide)
   have es := and_off 7 n s h1 h2 (by decide)
   have hb0 : 0 ≤ (b + offP 7 n) % 2 ^ n.toNat := Int.emod_nonneg _ (by omega)
   have hb1 : (b + offP 7 n) % 2 ^ n.toNat ≤ 4294967295 := by have := Int.emod_lt_of_pos (b + offP 7 n) (show 0 < (2 : Int) ^ n.toNat by omega); omega
   have hs0 : 0 ≤ (s + offP 7 n) % 2 ^ n.toNat := Int.emod_nonneg _ (by omega)
   have hs1 : (s + offP 7 n) % 2 ^ n.toNat ≤ 4294967295 := by have := Int.emod_lt_of_pos (s + offP 7 n) (show 0 < (2 : Int) ^ n.toNat by omega); omega
   generalize (b + offP 7 n) % 2 ^ n.toNat = b' at *
   generalize (s + offP 7 n) % 2 ^ n.toNat = s' at *
   have m0 : 0 ≤ mx n := (mx_bd n h2).1
   have m1 : mx n ≤ 4294967295 := (mx_bd n h2).2
   clear hs
   go_enter Tryz.func24, Tryz.ntmps24
   go_wp2_with (first | (go_at_call 34; refine (Mask_ok _ _ hw).mono ?_; rintro e w' ⟨rfl, rfl⟩))
   refine (outside3 _ _ _ hb0 hb1).mono ?_; rintro e w1 ⟨rfl, hb⟩
   go_wp2_with fail
   refine (HC.out _).mono ?_; rintro e w2 ⟨rfl, hb2⟩
   go_wp2_with fail
   go_ret2
   exact ⟨rfl, hb.trans (hb2.mono hb.size)⟩
  ·have HC := Lib.hid (until_at 8 n s t b _ _ r _ ok (by decide) (by decide) h1 h2 t0 t1 b0 b1 (.inr (.inr (.inl ⟨rfl, rfl, rfl, rfl⟩))) hs)
   have eb := and_off 8 n b h1 h2 (by decide)
   have es := and_off 8 n s h1 h2 (by decide)
   have hb0 : 0 ≤ (b + offP 8 n) % 2 ^ n.toNat := Int.emod_nonneg _ (by omega)
   have hb1 : (b + offP 8 n) % 2 ^ n.toNat ≤ 4294967295 := by have := Int.emod_lt_of_pos (b + offP 8 n) (show 0 < (2 : Int) ^ n.toNat by omega); omega
   have hs0 : 0 ≤ (s + offP 8 n) % 2 ^ n.toNat := Int.emod_nonneg _ (by omega)
   have hs1 : (s + offP 8 n) % 2 ^ n.toNat ≤ 4294967295 := by have := Int.emod_lt_of_pos (s + offP 8 n) (show 0 < (2 : Int) ^ n.toNat by omega); omega
   generalize (b + offP 8 n) % 2 ^ n.toNat = b' at *
   generalize (s + offP 8 n) % 2 ^ n.toNat = s' at *
   have m0 : 0 ≤ mx n := (mx_bd n h2).1
   have m1 : mx n ≤ 4294967295 := (mx_bd n h2).2
   clear hs
   go_enter Tryz.func24, Tryz.ntmps24
   go_wp2_with (first | (go_at_call 34; refine (Mask_ok _ _ hw).mono ?_; rintro e w' ⟨rfl, rfl⟩))
   refine (outside4 _ _ _).mono ?_; rintro e w1 ⟨rfl, hb⟩
   go_wp2_with fail
   refine (HC.out _).mono ?_; rintro e w2 ⟨rfl, hb2⟩
   go_wp2_with fail
   go_ret2
   exact ⟨rfl, hb.trans (hb2.mono hb.size)⟩
  ·have HC := Lib.hid (until_at 9 n s t b _ _ r _ ok (by decide) (by decide) h1 h2 t0 t1 b0 b1 (.inr (.inr (.inr ⟨rfl, rfl, rfl, rfl⟩))) hs)
   have eb := and_off 9 n b h1 h2 (by decide)
   have es := and_off 9 n s h1 h2 (by decide)
   have hb0 : 0 ≤ (b + offP 9 n) % 2 ^ n.toNat := Int.emod_nonneg _ (by omega)
   have hb1 : (b + offP 9 n) % 2 ^ n.toNat ≤ 4294967295 := by have := Int.emod_lt_of_pos (b + offP 9 n) (show 0 < (2 : Int) ^ n.toNat by omega); omega
   have hs0 : 0 ≤ (s + offP 9 n) % 2 ^ n.toNat := Int.emod_nonneg _ (by omega)
   have hs1 : (s + offP 9 n) % 2 ^ n.toNat ≤ 4294967295 := by have := Int.emod_lt_of_pos (s + offP 9 n) (show 0 < (2 : Int) ^ n.toNat by omega); omega
   generalize (b + offP 9 n) % 2 ^ n.toNat = b' at *
   generalize (s + offP 9 n) % 2 ^ n.toNat = s' at *
   have m0 : 0 ≤ mx n := (mx_bd n h2).1
   have m1 : mx n ≤ 4294967295 := (mx_bd n h2).2
   clear hs
   go_enter Tryz.func24, Tryz.ntmps24
   go_wp2_with (first | (go_at_call 34; refine (Mask_ok _ _ hw).mono ?_; rintro e w' ⟨rfl, rfl⟩))
   refine (outside5 _ _ _).mono ?_; rintro e w1 ⟨rfl, hb⟩
   go_wp2_with fail
   refine (HC.out _).mono ?_; rintro e w2 ⟨rfl, hb2⟩
   go_wp2_with fail
   go_ret2
   exact ⟨rfl, hb.trans (hb2.mono hb.size)⟩
 ·have h : p = 2 ∨ p = 3 ∨ p = 4 ∨ p = 5 := by omega
  rcases h with rfl | rfl | rfl | rfl
  ·have HC := Lib.hid (until_at 2 n s t b _ _ r _ ok (by decide) (by decide) h1 h2 t0 t1 b0 b1 (.inl ⟨rfl, rfl, rfl, rfl⟩) hs)
   have eb := and_noff 2 n b h1 h2 (by decide) b0 b1
   have es := and_noff 2 n s h1 h2 (by decide) s0 s1
   have hb0 : 0 ≤ (b + offP 2 n) % 2 ^ n.toNat := Int.emod_nonneg _ (by omega)
   have hb1 : (b + offP 2 n) % 2 ^ n.toNat ≤ 4294967295 := by have := Int.emod_lt_of_pos (b + offP 2 n) (show 0 < (2 : Int) ^ n.toNat by omega); omega
   have hs0 : 0 ≤ (s + offP 2 n) % 2 ^ n.toNat := Int.emod_nonneg _ (by omega)
   have hs1 : (s + offP 2 n) % 2 ^ n.toNat ≤ 4294967295 := by have := Int.emod_lt_of_pos (s + offP 2 n) (show 0 < (2 : Int) ^ n.toNat by omega); omega
   generalize (b + offP 2 n) % 2 ^ n.toNat = b' at *
   generalize (s + offP 2 n) % 2 ^ n.toNat = s' at *
   have m0 : 0 ≤ mx n := (mx_bd n h2).1
   have m1 : mx n ≤ 4294967295 := (mx_bd n h2).2
   clear hs
   go_enter Tryz.func24, Tryz.ntmps24
   go_wp2_with (first | (go_at_call 34; refine (Mask_ok _ _ hw).mono ?_; rintro e w' ⟨rfl, rfl⟩))
   refine (outside2 _ _ _).mono ?_; rintro e w1 ⟨rfl, hb⟩
   go_wp2_with fail
   refine (HC.out _).mono ?_; rintro e w2 ⟨rfl, hb2⟩
   go_wp2_with fail
   go_ret2
   exact ⟨rfl, hb.trans (hb2.mono hb.size)⟩
  ·have HC := Lib.hid (until_at 3 n s t b _ _ r _ ok (by decide) (by decide) h1 h2 t0 t1 b0 b1 (.inr (.inl ⟨rfl, rfl, rfl, rfl⟩)) hs)
   have eb := and_noff 3 n b h1 h2 (by decide) b0 b1
   have es := and_noff 3 n s h1 h2 (by decide) s0 s1
   have hb0 : 0 ≤ (b + offP 3 n) % 2 ^ n.toNat := Int.emod_nonneg _ (by omega)
   have hb1 : (b + offP 3 n) % 2 ^ n.toNat ≤ 4294967295 := by have := Int.emod_lt_of_pos (b + offP 3 n) (show 0 < (2 : Int) ^ n.toNat by omega); omega
   have hs0 : 0 ≤ (s + offP 3 n) % 2 ^ n.toNat := Int.emod_nonneg _ (by omega)
   have hs1 : (s + offP 3 n) % 2 ^ n.toNat ≤ 4294967295 := by have := Int.emod_lt_of_pos (s + offP 3 n) (show 0 < (2 : Int) ^ n.toNat by omega); omega
   generalize (b + offP 3 n) % 2 ^ n.toNat = b' at *
   generalize (s + offP 3 n) % 2 ^ n.toNat = s' at *
   have m0 : 0 ≤ mx n := (mx_bd n h2).1
   have m1 : mx n ≤ 4294967295 := (mx_bd n h2).2
   clear hs
   go_enter Tryz.func24, Tryz.ntmps24
   go_wp2_with (first | (go_at_call 34; refine (Mask_ok _ _ hw).mono ?_; rintro e w' ⟨rfl, rfl⟩))
   refine (outside3 _ _ _ hb0 hb1).mono ?_; rintro e w1 ⟨rfl, hb⟩
   go_wp2_with fail
   refine (HC.out _).mono ?_; rintro e w2 ⟨rfl, hb2⟩
   go_wp2_with fail
   go_ret2
   exact ⟨rfl, hb.trans (hb2.mono hb.size)⟩
  ·have HC := Lib.hid (until_at 4 n s t b _ _ r _ ok (by decide) (by decide) h1 h2 t0 t1 b0 b1 (.inr (.inr (.inl ⟨rfl, rfl, rfl, rfl⟩))) hs)
   have eb := and_noff 4 n b h1 h2 (by decide) b0 b1
   have es := and_noff 4 n s h1 h2 (by decide) s0 s1
   have hb0 : 0 ≤ (b + offP 4 n) % 2 ^ n.toNat := Int.emod_nonneg _ (by omega)
   have hb1 : (b + offP 4 n) % 2 ^ n.toNat ≤ 4294967295 := by have := Int.emod_lt_of_pos (b + offP 4 n) (show 0 < (2 : Int) ^ n.toNat by omega); omega
   have hs0 : 0 ≤ (s + offP 4 n) % 2 ^ n.toNat := Int.emod_nonneg _ (by omega)
   have hs1 : (s + offP 4 n) % 2 ^ n.toNat ≤ 4294967295 := by have := Int.emod_lt_of_pos (s + offP 4 n) (show 0 < (2 : Int) ^ n.toNat by omega); omega
   generalize (b + offP 4 n) % 2 ^ n.toNat = b' at *
   generalize (s + offP 4 n) % 2 ^ n.toNat = s' at *
   have m0 : 0 ≤ mx n := (mx_bd n h2).1
   have m1 : mx n ≤ 4294967295 := (mx_bd n h2).2
   clear hs
   go_enter Tryz.func24, Tryz.ntmps24
   go_wp2_with (first | (go_at_call 34; refine (Mask_ok _ _ hw).mono ?_; rintro e w' ⟨rfl, rfl⟩))
   refine (outside4 _ _ _).mono ?_; rintro e w1 ⟨rfl, hb⟩
   go_wp2_with fail
   refine (HC.out _).mono ?_; rintro e w2 ⟨rfl, hb2⟩
   go_wp2_with fail
   go_ret2
   exact ⟨rfl, hb.trans (hb2.mono hb.size)⟩
  ·have HC := Lib.hid (until_at 5 n s t b _ _ r _ ok (by decide) (by decide) h1 h2 t0 t1 b0 b1 (.inr (.inr (.inr ⟨rfl, rfl, rfl, rfl⟩))) hs)
   have eb := and_noff 5 n b h1 h2 (by decide) b0 b1
   have es := and_noff 5 n s h1 h2 (by decide) s0 s1
   have hb0 : 0 ≤ (b + offP 5 n) % 2 ^ n.toNat := Int.emod_nonneg _ (by omega)
   have hb1 : (b + offP 5 n) % 2 ^ n.toNat ≤ 4294967295 := by have := Int.emod_lt_of_pos (b + offP 5 n) (show 0 < (2 : Int) ^ n.toNat by omega); omega
   have hs0 : 0 ≤ (s + offP 5 n) % 2 ^ n.toNat := Int.emod_nonneg _ (by omega)
   have hs1 : (s + offP 5 n) % 2 ^ n.toNat ≤ 4294967295 := by have := Int.emod_lt_of_pos (s + offP 5 n) (show 0 < (2 : Int) ^ n.toNat by omega); omega
   generalize (b + offP 5 n) % 2 ^ n.toNat = b' at *
   generalize (s + offP 5 n) % 2 ^ n.toNat = s' at *
   have m0 : 0 ≤ mx n := (mx_bd n h2).1
   have m1 : mx n ≤ 4294967295 := (mx_bd n h2).2
   clear hs
   go_enter Tryz.func24, Tryz.ntmps24
   go_wp2_with (first | (go_at_call 34; refine (Mask_ok _ _ hw).mono ?_; rintro e w' ⟨rfl, rfl⟩))
   refine (outside5 _ _ _).mono ?_; rintro e w1 ⟨rfl, hb⟩
   go_wp2_with fail
   refine (HC.out _).mono ?_; rintro e w2 ⟨rfl, hb2⟩
   go_wp2_with fail
   go_ret2
   exact ⟨rfl, hb.trans (hb2.mono hb.size)⟩
end Go.Proofs.YtbbbflnnbbaamaaGreatDoor
namespace Go.Proofs.YtbbbflnnbbaamaaGreatDoor
open Go.RowKit

def cntB (p n s t b : Int) : Bool := cB n 0 [s, t, b] && (decide (0 ≤ p) && decide (p ≤ 9))
theorem cntB_iff {p n s t b : Int} : cntB p n s t b = true ↔ cB n 0 [s, t, b] = true ∧ 0 ≤ p ∧ p ≤ 9 := by simp [cntB]
theorem cB3 {n c s t b : Int} (h : cB n c [s, t, b] = true) : (1 ≤ n ∧ n ≤ 32) ∧ s < 2 ^ n.toNat ∧ t < 2 ^ n.toNat ∧ b < 2 ^ n.toNat := by
 have hi := cB_iff.1 h
 exact ⟨hi.1, mx_lt.1 (hi.2.2 0 (by simp)), mx_lt.1 (hi.2.2 1 (by simp)), mx_lt.1 (hi.2.2 2 (by simp))⟩

set_option maxHeartbeats 400000 in
theorem Trips_ok (p n s t b r : Int) (ok : Bool) (w : World) (h : cntB p n s t b = true) (s0 : 0 ≤ s) (t0 : 0 ≤ t) (b0 : 0 ≤ b) (hs : TripsSpec p n s t b r ok) :
  Calls Tryz.prog 9 #[.int .i64 p, .int .i64 n, .int .u32 s, .int .u32 t, .int .u32 b] w fun e w' => e = .returned (.tuple #[.int .i64 r, .bool ok, .int .i64 0]) ∧ Below w.heap.size w w' := by
 obtain ⟨hc, hp, hp9⟩ := cntB_iff.1 h
 obtain ⟨⟨h1, h2⟩, s1, t1, b1⟩ := cB3 hc
 have he := eI_t hc
 have HC := Lib.hid (fun w => trips_any p n s t b r ok w hp hp9 h1 h2 s0 s1 t0 t1 b0 b1 hs)
 cases ok
 ·have hr : r = 0 := by
   rcases hs with ⟨c, _⟩ | ⟨_, h, _⟩
   ·cases c
   ·exact h
  subst hr
  clear hs hc h s1 t1 b1
  go_enter Tryz.func9, Tryz.ntmps9
  go_wp2_with (first | (go_at_call 25; refine (counted_any _ _ _ 3 [s, t, b] _ rfl (by omega) (reads3 _ _ _ _ _)).mono ?_; rintro e w' ⟨rfl, rfl⟩) | (go_at_call 24; refine (HC.out _).mono ?_; rintro e w1 ⟨rfl, hb⟩))
  go_ret3
  exact ⟨rfl, ((Below.refl _ _).alloc (Nat.le_refl _) _).trans (hb.mono (by simp))⟩
 ·clear hs hc h s1 t1 b1
  go_enter Tryz.func9, Tryz.ntmps9
  go_wp2_with (first | (go_at_call 25; refine (counted_any _ _ _ 3 [s, t, b] _ rfl (by omega) (reads3 _ _ _ _ _)).mono ?_; rintro e w' ⟨rfl, rfl⟩) | (go_at_call 24; refine (HC.out _).mono ?_; rintro e w1 ⟨rfl, hb⟩))
  go_ret3
  exact ⟨rfl, ((Below.refl _ _).alloc (Nat.le_refl _) _).trans (hb.mono (by simp))⟩

set_option maxHeartbeats 400000 in
theorem rCounted_any (p n s t b : Int) (w : World) (hu : WordsU32 [s, t, b]) :
  Calls Tryz.prog 5 #[.int .i64 p, .int .i64 n, .int .u32 s, .int .u32 t, .int .u32 b] w fun e w' => e = .returned (.int .i64 (eI (cntB p n s t b))) ∧ Below w.heap.size w w' := by
 have HU := Lib.hid hu; clear hu
 cases hc : cB n 0 [s, t, b]
 ·have he := eI_f hc
  have hf : eI (cntB p n s t b) = 1 := eI_f (by unfold cntB; rw [hc]; rfl)
  rw [hf]
  clear hc hf
  go_enter Tryz.func5, Tryz.ntmps5
  go_wp2_with (first | (go_at_call 18; refine (worded_any _ _ _ 3 [s, t, b] _ rfl (by omega) (reads3 _ _ _ _ _) HU.out).mono ?_; rintro e w' ⟨rfl, rfl⟩))
  go_ret
  exact ⟨rfl, (Below.refl _ _).alloc (Nat.le_refl _) _⟩
 ·have he := eI_t hc
  by_cases hp : p < 0 ∨ 9 < p
  ·have hf : eI (cntB p n s t b) = 1 := eI_f (by rw [← Bool.not_eq_true, cntB_iff]; omega)
   rw [hf]
   clear hc hf
   rcases hp with hp | hp
   ·go_enter Tryz.func5, Tryz.ntmps5
    go_wp2_with (first | (go_at_call 18; refine (worded_any _ _ _ 3 [s, t, b] _ rfl (by omega) (reads3 _ _ _ _ _) HU.out).mono ?_; rintro e w' ⟨rfl, rfl⟩))
    go_ret
    exact ⟨rfl, (Below.refl _ _).alloc (Nat.le_refl _) _⟩
   ·have hp0 : ¬ p < 0 := by omega
    go_enter Tryz.func5, Tryz.ntmps5
    go_wp2_with (first | (go_at_call 18; refine (worded_any _ _ _ 3 [s, t, b] _ rfl (by omega) (reads3 _ _ _ _ _) HU.out).mono ?_; rintro e w' ⟨rfl, rfl⟩))
    go_ret
    exact ⟨rfl, (Below.refl _ _).alloc (Nat.le_refl _) _⟩
  ·have hf : eI (cntB p n s t b) = 0 := eI_t (by rw [cntB_iff]; exact ⟨hc, by omega⟩)
   rw [hf]
   have hp0 : ¬ p < 0 := by omega
   have hp9 : p ≤ 9 := by omega
   clear hc hf hp
   go_enter Tryz.func5, Tryz.ntmps5
   go_wp2_with (first | (go_at_call 18; refine (worded_any _ _ _ 3 [s, t, b] _ rfl (by omega) (reads3 _ _ _ _ _) HU.out).mono ?_; rintro e w' ⟨rfl, rfl⟩))
   go_ret
   exact ⟨rfl, (Below.refl _ _).alloc (Nat.le_refl _) _⟩

end Go.Proofs.YtbbbflnnbbaamaaGreatDoor
namespace Go.Proofs.YtbbbflnnbbaamaaGreatDoor
open Go.RowKit

def GoesUpto (p n s t b : Int) (k : Nat) : Prop := ∀ j : Nat, j < k → goesB p n s t b j = true
theorem ring_mul (n t : Int) (h2 : n ≤ 32) (t0 : 0 ≤ t) (t1 : t ≤ mx n) : ∃ u, ringV n t * t = 2 ^ n.toNat * u := by
 by_cases ht : t = 0
 ·subst ht; exact ⟨0, by simp⟩
 ·have b := mx_bd n h2
  obtain ⟨m, hm⟩ := ctz_form t (by omega) (by omega)
  have hlt := ctz_lt_w n t (by omega) h2 t1
  unfold ringV
  generalize Lib.ctz 32 t.toNat = j at *
  refine ⟨((2 * m + 1 : Nat) : Int), ?_⟩
  have e : t = 2 ^ j * ((2 * m + 1 : Nat) : Int) := by
   rw [← pow_nat, ← Int.natCast_mul, ← hm]; omega
  rw [e, ← Int.mul_assoc, ← Int.pow_add, show n.toNat - j + j = n.toNat by omega]
theorem after_ring (n s t k : Int) (h2 : n ≤ 32) (t0 : 0 ≤ t) (t1 : t ≤ mx n) : afterV n s t (k % ringV n t) = afterV n s t k := by
 obtain ⟨u, hu⟩ := ring_mul n t h2 t0 t1
 unfold afterV
 have e : s + k * t = s + k % ringV n t * t + 2 ^ n.toNat * (u * (k / ringV n t)) := by
  rw [← Int.mul_assoc, ← hu]
  have := Int.mul_ediv_add_emod k (ringV n t)
  have e2 : ringV n t * t * (k / ringV n t) = ringV n t * (k / ringV n t) * t := by rw [Int.mul_assoc, Int.mul_comm t, ← Int.mul_assoc]
  rw [e2, Int.add_assoc, ← Int.add_mul, Int.add_comm (k % _), this]
 rw [e, Int.add_mul_emod_self_left]
theorem goes_ring (p n s t b k : Int) (h2 : n ≤ 32) (t0 : 0 ≤ t) (t1 : t ≤ mx n) (_k0 : 0 ≤ k) :
  ∃ j : Nat, (j : Int) < ringV n t ∧ goesB p n s t b j = goesB p n s t b k := by
 have hr := ring_bd n t h2
 have m0 := Int.emod_nonneg k (show ringV n t ≠ 0 by omega)
 have m1 := Int.emod_lt_of_pos k (show 0 < ringV n t by omega)
 refine ⟨(k % ringV n t).toNat, by omega, ?_⟩
 rw [show (((k % ringV n t).toNat : Nat) : Int) = k % ringV n t by omega]
 unfold goesB
 rw [after_ring n s t k h2 t0 t1]
theorem trips_at {p n s t b : Int} {k : Nat} (h : GoesUpto p n s t b k) (g : goesB p n s t b k = false) (hk : (k : Int) < 2 ^ n.toNat) : TripsSpec p n s t b k true := by
 refine .inl ⟨rfl, by omega, hk, g, fun j j0 hj => ?_⟩
 obtain ⟨j, rfl⟩ := Int.eq_ofNat_of_zero_le j0
 rcases Nat.lt_or_ge j k with c | c
 ·rw [h j c] at hj; cases hj
 ·exact Int.ofNat_le.2 c
theorem trips_never {p n s t b : Int} {k : Nat} (h : GoesUpto p n s t b k) (hk : (k : Int) = ringV n t) (h2 : n ≤ 32) (t0 : 0 ≤ t) (t1 : t ≤ mx n) : TripsSpec p n s t b 0 false := by
 refine .inr ⟨rfl, rfl, fun j j0 => ?_⟩
 obtain ⟨i, hi, e⟩ := goes_ring p n s t b j h2 t0 t1 j0
 rw [← e]
 exact h i (by omega)
theorem ring_le (n t : Int) : ringV n t ≤ 2 ^ n.toNat := by
 unfold ringV
 rw [← pow_nat, ← pow_nat]
 exact Int.ofNat_le.2 (Nat.pow_le_pow_right (by decide) (by omega))

theorem trips_exists (p n s t b : Int) (h2 : n ≤ 32) (t0 : 0 ≤ t) (t1 : t ≤ mx n) : ∃ r ok, TripsSpec p n s t b r ok := by
 have hr := ring_bd n t h2
 have hl := ring_le n t
 by_cases h : ∃ k : Nat, (k : Int) < ringV n t ∧ goesB p n s t b k = false
 ·obtain ⟨k, hk, hg⟩ := h
  have key : ∀ f k : Nat, k ≤ f → (k : Int) < ringV n t → goesB p n s t b k = false → ∃ r ok, TripsSpec p n s t b r ok := by
   intro f
   induction f with
   | zero =>
    intro k hf hk hg
    obtain rfl : k = 0 := by omega
    exact ⟨_, _, trips_at (fun j hj => absurd hj (Nat.not_lt_zero _)) hg (by omega)⟩
   | succ f ih =>
    intro k hf hk hg
    by_cases hall : ∃ j : Nat, j < k ∧ goesB p n s t b j = false
    ·obtain ⟨j, hj, hjg⟩ := hall
     exact ih j (by omega) (by omega) hjg
    ·refine ⟨_, _, trips_at (fun j hj => ?_) hg (by omega)⟩
     rw [← Bool.not_eq_false]
     exact fun c => hall ⟨j, hj, c⟩
  exact key k k (Nat.le_refl _) hk hg
 ·refine ⟨_, _, trips_never (k := (ringV n t).toNat) (fun j hj => ?_) (by omega) h2 t0 t1⟩
  rw [← Bool.not_eq_false]
  exact fun c => h ⟨j, by omega, c⟩

theorem known1 : TripsSpec 2 8 0 3 10 4 true := by
 refine .inl ⟨rfl, by decide, by decide, by decide, fun k k0 hk => ?_⟩
 by_cases h : k = 0 ∨ k = 1 ∨ k = 2 ∨ k = 3
 ·rcases h with rfl | rfl | rfl | rfl <;> exact absurd hk (by decide)
 ·omega
theorem known2 : TripsSpec 1 4 0 2 5 0 false := by
 refine .inr ⟨rfl, rfl, fun k k0 => ?_⟩
 unfold goesB cmpV afterV
 rw [if_neg (by decide)]
 simp [cmpI]
 omega
set_option maxHeartbeats 1000000 in
theorem known_any (w : World) (hT : Tab w) :
  Calls Tryz.prog 6 #[] w fun e w' => e = .returned (.bool true) ∧ Below w.heap.size w w' := by
 have c1 : Hid (cB 8 4 [0, 3] = true) := Lib.hid (by decide)
 have c2 : Hid (cntB 2 8 0 3 10 = true) := Lib.hid (by decide)
 have c3 : Hid (cntB 1 4 0 2 5 = true) := Lib.hid (by decide)
 have c4 : Hid (cB 4 0 [2] = true) := Lib.hid (by decide)
 have v1 : afterV 8 0 3 4 = 12 := by decide
 have v2 : totalV 8 0 3 4 = 18 := by decide
 have v3 : ringV 4 2 = 8 := by decide
 have HT := Lib.hid hT; clear hT
 go_enter Tryz.func6, Tryz.ntmps6
 go_wp2_with fail
 refine (Trips_ok 2 8 0 3 10 4 true _ c2.out (by decide) (by decide) (by decide) known1).mono ?_; rintro e w1 ⟨rfl, hb1⟩
 go_wp2_with fail
 refine (After_ok 8 0 3 4 _ c1.out).mono ?_; rintro e w2 ⟨rfl, hb2⟩
 go_wp2_with fail
 refine (Total_ok 8 0 3 4 _ c1.out).mono ?_; rintro e w3 ⟨rfl, hb3⟩
 go_wp2_with fail
 refine (Trips_ok 1 4 0 2 5 0 false _ c3.out (by decide) (by decide) (by decide) known2).mono ?_; rintro e w4 ⟨rfl, hb4⟩
 have b := hb1.trans ((hb2.mono hb1.size).trans ((hb3.mono (Nat.le_trans hb1.size hb2.size)).trans (hb4.mono (Nat.le_trans hb1.size (Nat.le_trans hb2.size hb3.size)))))
 clear hb1 hb2 hb3 hb4
 go_wp2_with fail
 refine (Ring_ok 4 2 _ c4.out (by decide) (by decide) (HT.out.below b)).mono ?_; rintro e w5 ⟨rfl, hb5⟩
 go_wp2_with fail
 go_ret
 exact ⟨rfl, b.trans (hb5.mono b.size)⟩
end Go.Proofs.YtbbbflnnbbaamaaGreatDoor
namespace Go.Proofs.YtbbbflnnbbaamaaGreatDoor.PK
open Go.RowKit Mini

variable {p : Nat} {n : Int} {s t b : Nat}
set_option maxRecDepth 100000 in
theorem headed_E (h : W0 p n s t b) (B b0 : Nat) (ex : List Bx) (w : World) (hm : MemE B b0 w p n s t b ex) :
  Calls Tryz.prog 22 #[funW b0 n, .int .i64 1] w fun e w' => e = .returned (.int .i64 0) ∧ MemE B b0 w' p n s t b ex ∧ Below B w w' := by
 have hal : Below w.heap.size w (w.alloc (.cells #[.slice none 0 0, .int .i64 n, .slice none 0 0, .slice (some ⟨b0 + 13, 0, none⟩) 4 4] 31)) := (Below.refl _ _).alloc (Nat.le_refl _) _
 have hr0 : (w.alloc (.cells #[.slice none 0 0, .int .i64 n, .slice none 0 0, .slice (some ⟨b0 + 13, 0, none⟩) 4 4] 31)).heap[w.heap.size]? = some (.cells #[.slice none 0 0, .int .i64 n, .slice none 0 0, .slice (some ⟨b0 + 13, 0, none⟩) 4 4] 31 (0, 0)) := heap_alloc_new _ _
 have hbs : B ≤ w.heap.size := Nat.le_trans hm.lo hm.f.size
 have HV := Lib.hid (fun u (hu : MemE B b0 u p n s t b ex) => Validate_ir_any (F0 p n s t b) (A0 b0) u (f0_mem hu.f) (f0_ok h))
 rw [f0_err h] at HV
 have HG := Lib.hid (fun u (hu : MemE B b0 u p n s t b ex) => graphOf_E hu)
 have HM1 := Lib.hid (hm.below hal); have HB1 := Lib.hid (hal.mono hbs)
 have g0 := cell_of_row _ _ 0 _ _ _ hr0; have g1 := cell_of_row _ _ 1 _ _ _ hr0; have g2 := cell_of_row _ _ 2 _ _ _ hr0; have g3 := cell_of_row _ _ 3 _ _ _ hr0
 have HR := Lib.hid hr0
 have q0 : ((0 : Int) != 0) = false := rfl
 change Hid (∀ u (hu : MemE B b0 u p n s t b ex), Calls Tryz.prog _ #[.agg #[.slice none 0 0, .int .i64 n, .slice none 0 0, .slice (some ⟨b0 + 13, 0, none⟩) 4 4]] u (ErrPost 0 u)) at HV
 simp only [funW] at HG ⊢
 clear hal hr0 hm
 go_enter Tryz.func22, Tryz.ntmps22
 go_upto_region 1 with fail
 generalize (w.alloc _) = w1 at *
 have hz1 := HB1.out.size
 go_wp2_with fail
 refine (HV.out w1 HM1.out).mono ?_; rintro e w2 ⟨rfl, hb2⟩
 have HM2 := Lib.hid (HM1.out.below hb2); have HB2 := Lib.hid (HB1.out.trans (hb2.mono (by omega))); have HR2 := Lib.hid (row_below HR.out hb2)
 clear g0 g1 g2 g3 hb2
 have g0 := cell_of_row _ _ 0 _ _ _ HR2.out; have g1 := cell_of_row _ _ 1 _ _ _ HR2.out; have g2 := cell_of_row _ _ 2 _ _ _ HR2.out; have g3 := cell_of_row _ _ 3 _ _ _ HR2.out
 have hz2 := HB2.out.size
 go_wp2_with fail
 refine (HG.out w2 HM2.out).mono ?_; rintro e w3 ⟨v, rfl, hb3, hl⟩
 have HL := Lib.hid hl; have HB3 := Lib.hid (HB2.out.trans hb3)
 clear g0 g1 g2 g3 hb3 hl
 go_wp2_with fail
 refine HL.out.mono ?_; rintro e w4 ⟨⟨a, rfl⟩, hm4, hb4⟩
 have HM4 := Lib.hid hm4; have HB4 := Lib.hid (HB3.out.trans hb4)
 clear hm4 hb4
 go_wp2_with fail
 go_ret
 exact ⟨rfl, HM4.out, HB4.out⟩
end Go.Proofs.YtbbbflnnbbaamaaGreatDoor.PK
namespace Go.Proofs.YtbbbflnnbbaamaaGreatDoor.PK
open Go.RowKit Mini

variable {p : Nat} {n : Int} {s t b : Nat}
theorem W0.ints (h : W0 p n s t b) : (s : Int) < 2 ^ n.toNat ∧ (t : Int) < 2 ^ n.toNat ∧ (b : Int) < 2 ^ n.toNat := by
 have hc : ((2 ^ n.toNat : Nat) : Int) = (2 : Int) ^ n.toNat := by simp
 have := h.s1; have := h.t1; have := h.b1
 exact ⟨by omega, by omega, by omega⟩
set_option maxRecDepth 100000 in
theorem Counted_E (h : W0 p n s t b) (r : Int) (ok : Bool) (hs : TripsSpec p n s t b r ok) (B b0 : Nat) (ex : List Bx) (hex : ex.length ≤ 3) (w : World) (hm : MemE B b0 w p n s t b ex) :
  Calls Tryz.prog 8 #[funW b0 n, .int .i64 1] w fun e w' => e = .returned (.tuple #[.int .i64 r, .bool ok, .int .i64 0]) ∧ MemE B b0 w' p n s t b ex ∧ Below B w w' := by
 have hal : Below w.heap.size w (w.alloc (.cells #[.slice none 0 0, .int .i64 n, .slice none 0 0, .slice (some ⟨b0 + 13, 0, none⟩) 4 4] 31)) := (Below.refl _ _).alloc (Nat.le_refl _) _
 have hr0 : (w.alloc (.cells #[.slice none 0 0, .int .i64 n, .slice none 0 0, .slice (some ⟨b0 + 13, 0, none⟩) 4 4] 31)).heap[w.heap.size]? = some (.cells #[.slice none 0 0, .int .i64 n, .slice none 0 0, .slice (some ⟨b0 + 13, 0, none⟩) 4 4] 31 (0, 0)) := heap_alloc_new _ _
 have hbs : B ≤ w.heap.size := Nat.le_trans hm.lo hm.f.size
 have HH := Lib.hid (fun ex u (hu : MemE B b0 u p n s t b ex) => headed_E h B b0 ex u hu)
 have HC := Lib.hid (fun ex u (hu : MemE B b0 u p n s t b ex) => countOf_E hu)
 have hwp : IntKind.i64.wrap ((p : Nat) : Int) = (p : Int) := by have := h.p9; simp [IntKind.wrap, IntKind.bits, IntKind.signed]; omega
 rw [hwp] at HC
 have hi := h.ints
 have HT := Lib.hid (fun u => trips_any p n s t b r ok u (by omega) (by have := h.p9; omega) h.n1 h.n2 (by omega) hi.1 (by omega) hi.2.1 (by omega) hi.2.2 hs)
 have HZ : Hid (ok = false → r = 0) := Lib.hid fun e => by
  rcases hs with ⟨h1, _⟩ | ⟨_, h1, _⟩
  ·rw [e] at h1; cases h1
  ·exact h1
 have HM1 := Lib.hid (hm.push hal w.heap.size 31 4 [nv, iv n, nv, sv 13 4] (Nat.le_refl _) (rowAt_rnds hr0 (.cons (.v _) (.cons (.v _) (.cons (.v _) (.cons (rnd_sl _ 13 4 (by decide)) .nil)))) rfl (by show 4 ≤ far; decide)) rfl hex); have HB1 := Lib.hid (hal.mono hbs)
 have g0 := cell_of_row _ _ 0 _ _ _ hr0; have g1 := cell_of_row _ _ 1 _ _ _ hr0; have g2 := cell_of_row _ _ 2 _ _ _ hr0; have g3 := cell_of_row _ _ 3 _ _ _ hr0
 have HR := Lib.hid hr0
 have q0 : ((0 : Int) != 0) = false := rfl
 simp only [funW] at HH HC ⊢
 clear hal hr0 hm hs hi h hwp
 go_enter Tryz.func8, Tryz.ntmps8
 go_upto_region 1 with fail
 generalize (w.alloc _) = w1 at *
 have hz1 := HB1.out.size
 go_wp2_with fail
 refine (HH.out _ w1 HM1.out).mono ?_; rintro e w2 ⟨rfl, hm2, hb2⟩
 have HM2 := Lib.hid hm2; have HB2 := Lib.hid (HB1.out.trans hb2)
 clear g0 g1 g2 g3 hm2 hb2
 have hz2 := HB2.out.size
 have g0 := cell_v (i := 0) HM2.out.top rfl; have g1 := cell_v (i := 1) HM2.out.top rfl; have g2 := cell_v (i := 2) HM2.out.top rfl; have g3 := cell_s (i := 3) HM2.out.top rfl (by decide)
 simp only at g0 g1 g2 g3
 go_wp2_with fail
 refine (HC.out _ w2 HM2.out.pop).mono ?_; rintro e w3 ⟨rfl, hm3, hb3⟩
 have HM3 := Lib.hid hm3; have HB3 := Lib.hid (HB2.out.trans hb3)
 clear g0 g1 g2 g3 hm3 hb3
 have hz3 := HB3.out.size
 have hal4 : Below w3.heap.size w3 (w3.alloc (.cells #[.int .i64 (p : Nat), .int .i64 n, .int .u32 (s : Nat), .int .u32 (t : Nat), .int .u32 (b : Nat)] 66)) := (Below.refl _ _).alloc (Nat.le_refl _) _
 have hr4 : (w3.alloc (.cells #[.int .i64 (p : Nat), .int .i64 n, .int .u32 (s : Nat), .int .u32 (t : Nat), .int .u32 (b : Nat)] 66)).heap[w3.heap.size]? = some (.cells #[.int .i64 (p : Nat), .int .i64 n, .int .u32 (s : Nat), .int .u32 (t : Nat), .int .u32 (b : Nat)] 66 (0, 0)) := heap_alloc_new _ _
 have HM4 := Lib.hid (HM3.out.below hal4); have HB4 := Lib.hid (HB3.out.trans (hal4.mono (by omega)))
 have k0 := cell_of_row _ _ 0 _ _ _ hr4; have k1 := cell_of_row _ _ 1 _ _ _ hr4; have k2 := cell_of_row _ _ 2 _ _ _ hr4; have k3 := cell_of_row _ _ 3 _ _ _ hr4; have k4 := cell_of_row _ _ 4 _ _ _ hr4
 clear hal4 hr4
 go_upto_region 5 with fail
 generalize (w3.alloc _) = w4 at *
 have hz4 := HB4.out.size
 go_wp2_with fail
 refine (HT.out w4).mono ?_; rintro e w5 ⟨rfl, hb5⟩
 have HM5 := Lib.hid (HM4.out.below hb5); have HB5 := Lib.hid (HB4.out.trans (hb5.mono (by omega)))
 clear k0 k1 k2 k3 k4 hb5
 cases ok
 ·obtain rfl := HZ.out rfl
  go_wp2_with fail
  go_ret3
  exact ⟨rfl, HM5.out, HB5.out⟩
 ·go_wp2_with fail
  go_ret3
  exact ⟨rfl, HM5.out, HB5.out⟩
end Go.Proofs.YtbbbflnnbbaamaaGreatDoor.PK
namespace Go.Proofs.YtbbbflnnbbaamaaGreatDoor.PK
open Go.RowKit

theorem log_blocks (x0 x1 x2 x3 x4 x5 x7 x8 x9 : Value) (a : Option Addr) (m c : Nat) (w : World) : (Instr.field 75 (.agg #[x0, x1, x2, x3, x4, x5, .slice a m c, x7, x8, x9]) 2).run Tryz.prog w = .ok (.slice a m c) w := by kernel_rfl
set_option maxRecDepth 100000 in
theorem wTrace_any (F : Fun) (A : FunA) (m : Nat) (bk : Nat → Nat) (frm : Nat → Int) (L : Nat → List Int) (s : Nat → Nat) (w : World) (hin : FunIn w F A) (hok : FunOk F) (hi : inE F [] [] = 0) (hP : Path F m bk frm L s) :
  Calls Tryz.prog 10 #[funV F A, .agg #[.slice none 0 0, .slice none 0 0], .slice none 0 0] w fun e w' => ∃ ba bc, e = .returned (.tuple #[.slice ba m bc, .int .i64 0]) ∧ IntsIn w' ba (blksP bk m) ∧ Below w.heap.size w w' := by
 have hal : Below w.heap.size w ((w.alloc (.cells #[.slice A.pa F.ps.length A.pc, .int .i64 F.ret, .slice A.sa F.sl.length A.sc, .slice A.ba F.bs.length A.bc] 31)).alloc (.cells #[.slice none 0 0, .slice none 0 0] 41)) := ((Below.refl _ _).alloc (Nat.le_refl _) _).alloc (by simp) _
 have hrF : ((w.alloc (.cells #[.slice A.pa F.ps.length A.pc, .int .i64 F.ret, .slice A.sa F.sl.length A.sc, .slice A.ba F.bs.length A.bc] 31)).alloc (.cells #[.slice none 0 0, .slice none 0 0] 41)).heap[w.heap.size]? = some (.cells #[.slice A.pa F.ps.length A.pc, .int .i64 F.ret, .slice A.sa F.sl.length A.sc, .slice A.ba F.bs.length A.bc] 31 (0, 0)) := by
  rw [Below.heap_alloc _ _ _ (by simp)]
  exact heap_alloc_new _ _
 have hrI : ((w.alloc (.cells #[.slice A.pa F.ps.length A.pc, .int .i64 F.ret, .slice A.sa F.sl.length A.sc, .slice A.ba F.bs.length A.bc] 31)).alloc (.cells #[.slice none 0 0, .slice none 0 0] 41)).heap[w.heap.size + 1]? = some (.cells #[.slice none 0 0, .slice none 0 0] 41 (0, 0)) := by
  have := heap_alloc_new (w.alloc (.cells #[.slice A.pa F.ps.length A.pc, .int .i64 F.ret, .slice A.sa F.sl.length A.sc, .slice A.ba F.bs.length A.bc] 31)) (.cells #[.slice none 0 0, .slice none 0 0] 41)
  simpa using this
 have HV := Lib.hid (fun u (hu : Below w.heap.size w u) => rValidateInput_any F A [] [] none none 0 0 u (hin.below hu) hok (fun k hk => absurd hk (Nat.not_lt_zero _)) (fun k hk => absurd hk (Nat.not_lt_zero _)) (fun k hk => absurd hk (Nat.not_lt_zero _)) ⟨Nat.zero_le _, Nat.zero_le _, fun k hk => absurd hk (Nat.not_lt_zero _)⟩)
 have HR := Lib.hid (fun u (hu : Below w.heap.size w u) => wRun_any F A m bk frm L s u (hin.below hu) hok.sm hP)
 rw [hi] at HV
 have HB0 := Lib.hid hal
 have f0 := cell_of_row _ _ 0 _ _ _ hrF; have f1 := cell_of_row _ _ 1 _ _ _ hrF; have f2 := cell_of_row _ _ 2 _ _ _ hrF; have f3 := cell_of_row _ _ 3 _ _ _ hrF
 have i0 := cell_of_row _ _ 0 _ _ _ hrI; have i1 := cell_of_row _ _ 1 _ _ _ hrI
 have HF := Lib.hid hrF; have HI := Lib.hid hrI
 obtain ⟨pa, pc, sa, sc, ba, bc⟩ := A
 simp only [funV, funC, inV, List.length_nil] at HV HR ⊢
 generalize blksP bk m = B at *
 have q0 : ((0 : Int) != 0) = false := rfl
 clear hin hok hi hP hal hrF hrI
 go_enter Tryz.func10, Tryz.ntmps10
 go_upto_region 1 with fail
 generalize ((w.alloc _).alloc _) = w1 at *
 have HZ := Lib.hid HB0.out.size
 go_wp2_with fail
 refine (HV.out w1 HB0.out).mono ?_; rintro e w2 ⟨rfl, hb2⟩
 have HB2 := Lib.hid (HB0.out.trans (hb2.mono HZ.out))
 have HF2 := Lib.hid (row_below HF.out hb2); have HI2 := Lib.hid (row_below HI.out hb2)
 clear f0 f1 f2 f3 i0 i1 hb2
 have f0 := cell_of_row _ _ 0 _ _ _ HF2.out; have f1 := cell_of_row _ _ 1 _ _ _ HF2.out; have f2 := cell_of_row _ _ 2 _ _ _ HF2.out; have f3 := cell_of_row _ _ 3 _ _ _ HF2.out
 have i0 := cell_of_row _ _ 0 _ _ _ HI2.out; have i1 := cell_of_row _ _ 1 _ _ _ HI2.out
 go_wp2_with fail
 refine (HR.out w2 HB2.out).mono ?_; rintro e w3 ⟨o0, o1, o2, o3, o4, b4, c4, s4, v1, v2, rfl, hi3, hb3⟩
 have HI3 := Lib.hid hi3; have HB3 := Lib.hid (HB2.out.trans (hb3.mono HB2.out.size))
 clear f0 f1 f2 f3 i0 i1 hi3 hb3
 have hlb := log_blocks (.int .i64 o0) (.bool o1) (.int .i64 o2) (.int .u32 o3) o4 (.slice none 0 0) (.int .i64 s4) v1 v2 b4 m c4
 go_wp2_with fail
 go_ret2
 exact ⟨b4, c4, rfl, HI3.out, HB3.out⟩
end Go.Proofs.YtbbbflnnbbaamaaGreatDoor.PK
