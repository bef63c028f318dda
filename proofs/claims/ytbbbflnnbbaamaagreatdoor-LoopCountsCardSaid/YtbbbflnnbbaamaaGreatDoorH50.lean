/- Packed of several texts. -/
import Derived.Test.YtbbbflnnbbaamaaGreatDoorH49
import Derived.WalkKit
namespace Go.Proofs.YtbbbflnnbbaamaaGreatDoor
open Go.RowKit

theorem pairs_odd {n : Int} (h : n % 2 = 1) : (n - 1) / 2 * n = pairs n := by unfold pairs; rw [if_pos h]
theorem pairs_even {n : Int} (h : ¬ n % 2 = 1) : n / 2 * (n - 1) = pairs n := by unfold pairs; rw [if_neg h]
theorem ret_pair {k : IntKind} {a b : Int} {v : Value} (h : a = b) : Ending.returned (.tuple #[.int k a, v]) = .returned (.tuple #[.int k b, v]) := by rw [h]
theorem total_fin (n s t c A B : Int) (h1 : 0 ≤ n) (h2 : n ≤ 32) (hA : Cg (2 ^ n.toNat) A (c * s)) (hB : Cg (2 ^ n.toNat) B (pairs c * t)) :
  bits .and .u32 ((A + B) % 4294967296) (mx n) = totalV n s t c := by
 rw [and_mx _ _ (by omega) (by omega) h1 h2]
 exact (Cg.mod (pow_dvd32 n h2)).tr (hA.add hB)
theorem u64_dvd (n : Int) (h2 : n ≤ 32) (x : Int) : Cg (2 ^ n.toNat) (IntKind.u64.wrap x) x := by
 rw [IntKind.wrap_u64]; exact Cg.mod (pow_dvd64 n h2)
theorem m32 (n : Int) (h2 : n ≤ 32) (x : Int) : Cg (2 ^ n.toNat) (x % 4294967296) x := Cg.mod (pow_dvd32 n h2)
theorem Cg.comm {m a b : Int} : Cg m (a * b) (b * a) := Cg.of (Int.mul_comm _ _)

set_option maxHeartbeats 400000 in
theorem Total_ok (n s t c : Int) (w : World) (h : cB n c [s, t] = true) :
  Calls Tryz.prog 20 #[.int .i64 n, .int .u32 s, .int .u32 t, .int .i64 c] w fun e w' => e = .returned (.tuple #[.int .u32 (totalV n s t c), .int .i64 0]) ∧ Below w.heap.size w w' := by
 have hi := cB_iff.1 h
 have hw := isW_iff.2 hi.1
 have he := eI_t h
 have h1 := hi.1.1; have h2 := hi.1.2; have h3 := hi.2.1.1; have h4 := hi.2.1.2
 clear hi h
 have h0 : 0 ≤ n := by omega
 by_cases ho : c % 2 = 1
 ·have ho' := Lib.hid (pairs_odd ho)
  go_enter Tryz.func20, Tryz.ntmps20
  go_wp2_with (first | (go_at_call 25; refine (counted_any _ _ _ 2 [s, t] _ rfl (by omega) (reads2 _ _ _ _)).mono ?_; rintro e w' ⟨rfl, rfl⟩) | (go_at_call 34; refine (Mask_ok _ _ hw).mono ?_; rintro e w' ⟨rfl, rfl⟩))
  go_ret2
  exact ⟨ret_pair (total_fin n s t c _ _ h0 h2 Cg.comm (((Cg.rfl.mul ((m32 n h2 _).tr (u64_dvd n h2 _))).tr Cg.comm).tr (Cg.of (by first | rw [ho'.out] | rw [Int.max_eq_left (by omega), ho'.out])))), (Below.refl _ _).alloc (Nat.le_refl _) _⟩
 ·have ho' := Lib.hid (pairs_even ho)
  by_cases hz : c = 0
  ·subst hz
   go_enter Tryz.func20, Tryz.ntmps20
   go_wp2_with (first | (go_at_call 25; refine (counted_any _ _ _ 2 [s, t] _ rfl (by omega) (reads2 _ _ _ _)).mono ?_; rintro e w' ⟨rfl, rfl⟩) | (go_at_call 34; refine (Mask_ok _ _ hw).mono ?_; rintro e w' ⟨rfl, rfl⟩))
   go_ret2
   refine ⟨?_, (Below.refl _ _).alloc (Nat.le_refl _) _⟩
   have := total_fin n s t 0 0 0 h0 h2 (Cg.of (by simp)) (Cg.of (by rw [show pairs 0 = 0 from rfl]; simp))
   rw [← this]
   rfl
  ·have hz' : 1 ≤ c := by omega
   go_enter Tryz.func20, Tryz.ntmps20
   go_wp2_with (first | (go_at_call 25; refine (counted_any _ _ _ 2 [s, t] _ rfl (by omega) (reads2 _ _ _ _)).mono ?_; rintro e w' ⟨rfl, rfl⟩) | (go_at_call 34; refine (Mask_ok _ _ hw).mono ?_; rintro e w' ⟨rfl, rfl⟩))
   go_ret2
   exact ⟨ret_pair (total_fin n s t c _ _ h0 h2 ((Cg.rfl.mul (m32 n h2 _)).tr Cg.comm) (((Cg.rfl.mul ((m32 n h2 _).tr (u64_dvd n h2 _))).tr Cg.comm).tr (Cg.of (by first | rw [ho'.out] | rw [Int.max_eq_left (by omega), ho'.out])))), (Below.refl _ _).alloc (Nat.le_refl _) _⟩

theorem words3 {a b c : Int} (a0 : 0 ≤ a) (a1 : a ≤ 4294967295) (b0 : 0 ≤ b) (b1 : b ≤ 4294967295) (c0 : 0 ≤ c) (c1 : c ≤ 4294967295) : WordsU32 [a, b, c] := by
 intro k hk
 have hk : k < 3 := hk
 match k, hk with
 | 0, _ => exact ⟨a0, a1⟩
 | 1, _ => exact ⟨b0, b1⟩
 | 2, _ => exact ⟨c0, c1⟩
end Go.Proofs.YtbbbflnnbbaamaaGreatDoor
namespace Go.Proofs.YtbbbflnnbbaamaaGreatDoor
open Go.RowKit

def Tab (w : World) : Prop := 0 < w.heap.size ∧ ∀ j, j < 32 → w.cell? ⟨0, j, none⟩ = some (.int .u8 (Lib.deBruijn32tab.getD j 0))
theorem Tab.below {w w' : World} (h : Tab w) (hb : Below w.heap.size w w') : Tab w' :=
 ⟨Nat.lt_of_lt_of_le h.1 hb.size, fun j hj => by rw [hb.cell (p := ⟨0, j, none⟩) h.1]; exact h.2 j hj⟩

theorem tz32_core (x k idx : Nat) (w : World) (hx0 : ((x : Int) == 0) = false)
  (key : bits BinOp.and IntKind.u32 (x : Int) (-(x : Int) % 4294967296) * 125613361 % 4294967296 / 134217728 = (idx : Int))
  (hi : idx < 32) (hk : k < 32) (hcell : w.cell? ⟨0, idx, none⟩ = some (.int .u8 k)) :
  Calls Tryz.prog 63 #[.int .u32 x] w fun e w' => e = .returned (.int .i64 k) ∧ w = w' := by
 go_enter Tryz.func63, Tryz.ntmps63
 go_wp2_with (simp only [key])
 go_ret
 exact ⟨rfl, rfl⟩
theorem tz32_zero (w : World) : Calls Tryz.prog 63 #[.int .u32 0] w fun e w' => e = .returned (.int .i64 32) ∧ w = w' := by
 go_enter Tryz.func63, Tryz.ntmps63
 go_wp2
 go_ret
 exact ⟨rfl, rfl⟩
theorem tz32_key (x a : Nat) (hx : x < 4294967296) (hx0 : x ≠ 0) (hlow : x &&& (4294967296 - x) = a) :
  bits BinOp.and IntKind.u32 (x : Int) (-(x : Int) % 4294967296) * 125613361 % 4294967296 / 134217728 = ((a * 125613361 % 4294967296 / 134217728 : Nat) : Int) := by
 have e1 : -(x : Int) % 4294967296 = ((4294967296 - x : Nat) : Int) := by omega
 rw [e1, and_u32_nat x _ hx (by omega), hlow]
 omega
def ctzI (x : Int) : Int := (Lib.ctz 32 x.toNat : Nat)
theorem tz32_any (x : Int) (x0 : 0 ≤ x) (x1 : x ≤ 4294967295) (w : World) (hT : Tab w) :
  Calls Tryz.prog 63 #[.int .u32 x] w fun e w' => e = .returned (.int .i64 (ctzI x)) ∧ w = w' := by
 obtain ⟨x, rfl⟩ := Int.eq_ofNat_of_zero_le x0
 unfold ctzI
 rw [Int.toNat_natCast]
 by_cases hx0 : x = 0
 ·subst hx0
  exact tz32_zero w
 ·have hx : x < 4294967296 := by omega
  obtain ⟨hlow, hk⟩ := Lib.lowest_bit 32 x hx0 hx
  obtain ⟨hi, htab⟩ := Lib.deBruijn32_at _ hk
  have hcell := hT.2 _ hi
  rw [htab] at hcell
  exact tz32_core x _ _ w (by simp; omega) (tz32_key x _ hx hx0 hlow) hi hk hcell

def ringV (n t : Int) : Int := 2 ^ (n.toNat - Lib.ctz 32 t.toNat)
theorem ctz_form (t : Int) (h0 : 0 < t) (h1 : t ≤ 4294967295) : ∃ m, t.toNat = 2 ^ Lib.ctz 32 t.toNat * (2 * m + 1) := by
 have e : Lib.ctz 32 t.toNat = Lib.ctzFrom 32 t.toNat := by unfold Lib.ctz; rw [if_neg (by omega)]
 rw [e]
 exact (Lib.ctzFrom_spec 32 t.toNat (by omega) (by omega)).imp fun _ h => h.1
theorem ctz_lt_w (n t : Int) (h0 : 0 < t) (h2 : n ≤ 32) (h1 : t ≤ mx n) : Lib.ctz 32 t.toNat < n.toNat := by
 have b := mx_bd n h2
 obtain ⟨m, hm⟩ := ctz_form t h0 (by omega)
 have h : 2 ^ Lib.ctz 32 t.toNat ≤ t.toNat := by
  conv => rhs; rw [hm]
  exact Nat.le_mul_of_pos_right _ (by omega)
 have : 2 ^ Lib.ctz 32 t.toNat < 2 ^ n.toNat := by
  unfold mx at h1; rw [← pow_nat] at h1; omega
 exact (Nat.pow_lt_pow_iff_right (by decide)).1 this
theorem ring_min (n t : Int) (h1 : 1 ≤ n) (h2 : n ≤ 32) : (2 : Int) ^ (n - min n (ctzI t)).toNat = ringV n t := by
 unfold ringV ctzI
 congr 1
 omega

theorem ring_bd (n t : Int) (h2 : n ≤ 32) : 1 ≤ ringV n t ∧ ringV n t ≤ 4294967296 := by
 unfold ringV
 have h := pow_bd ((n.toNat - Lib.ctz 32 t.toNat : Nat) : Int) (by omega)
 rwa [Int.toNat_natCast] at h

theorem w64 (x : Int) (h0 : 1 ≤ x) (h1 : x ≤ 4294967296) : wrap64 x = x := IntWalk.wrap64_in x (by omega)
theorem Trailing_ok (n t : Int) (w : World) (h : cB n 0 [t] = true) (t0 : 0 ≤ t) (t1 : t ≤ 4294967295) (hT : Tab w) :
  Calls Tryz.prog 35 #[.int .i64 n, .int .u32 t] w fun e w' => e = .returned (.tuple #[.int .i64 (min n (ctzI t)), .int .i64 0]) ∧ Below w.heap.size w w' := by
 have hB : (isW n && allLe (mx n) [t]) = true := by
  have hi := cB_iff.1 h
  rw [Bool.and_eq_true]; exact ⟨isW_iff.2 hi.1, allLe_iff.2 hi.2.2⟩
 have hT' := hT.below ((Below.refl _ w).alloc (Nat.le_refl _) (.cells #[.int .u32 t] 22))
 have HT := Lib.hid hT'; clear hT' hT h
 go_enter Tryz.func35, Tryz.ntmps35
 go_wp2_with (first | (go_at_call 62; refine (fits_any _ _ 1 [t] _ rfl (by omega) (reads1 _ _ _)).mono ?_; rintro e w' ⟨rfl, rfl⟩) | (go_at_call 63; refine (tz32_any t t0 t1 _ HT.out).mono ?_; rintro e w' ⟨rfl, rfl⟩))
 all_goals (go_ret2; exact ⟨ret_pair (by omega), (Below.refl _ _).alloc (Nat.le_refl _) _⟩)

set_option maxHeartbeats 400000 in
theorem Ring_ok (n t : Int) (w : World) (h : cB n 0 [t] = true) (t0 : 0 ≤ t) (t1 : t ≤ 4294967295) (hT : Tab w) :
  Calls Tryz.prog 21 #[.int .i64 n, .int .u32 t] w fun e w' => e = .returned (.tuple #[.int .i64 (ringV n t), .int .i64 0]) ∧ Below w.heap.size w w' := by
 have hi := cB_iff.1 h
 have he := eI_t h
 have h1 := hi.1.1; have h2 := hi.1.2
 have hT' := hT.below ((Below.refl _ w).alloc (Nat.le_refl _) (.cells #[.int .u32 t] 22))
 have HT := Lib.hid hT'; clear hT' hT
 have H := Lib.hid h; clear h hi
 have hr := Lib.hid (ring_min n t h1 h2)
 have hc : 0 ≤ ctzI t := by unfold ctzI; omega
 have hm0 : 0 ≤ min n (ctzI t) := by omega
 have hm1 : min n (ctzI t) ≤ n := by omega
 go_enter Tryz.func21, Tryz.ntmps21
 go_wp2_with (first | (go_at_call 25; refine (counted_any _ _ _ 1 [t] _ rfl (by omega) (reads1 _ _ _)).mono ?_; rintro e w' ⟨rfl, rfl⟩) | (go_at_call 35; refine (Trailing_ok _ _ _ H.out t0 t1 HT.out).mono ?_; rintro e w1 ⟨rfl, hb⟩; generalize min n (ctzI t) = z at *))
 go_ret2
 exact ⟨ret_pair (by rw [hr.out]; exact w64 _ (ring_bd n t h2).1 (ring_bd n t h2).2), ((Below.refl _ _).alloc (Nat.le_refl _) _).trans (hb.mono (by simp))⟩
end Go.Proofs.YtbbbflnnbbaamaaGreatDoor
namespace Go.Proofs.YtbbbflnnbbaamaaGreatDoor

def Hit (a m lo hi n : Int) : Prop := 0 ≤ n ∧ lo ≤ n * a % m ∧ n * a % m ≤ hi
def FirstSpec (a m lo hi n : Int) (ok : Bool) : Prop :=
 (ok = true ∧ Hit a m lo hi n ∧ n < m ∧ ∀ k, Hit a m lo hi k → n ≤ k) ∨ (ok = false ∧ n = 0 ∧ ∀ k, ¬ Hit a m lo hi k)
def FirstPre (a m lo hi : Int) : Prop := 0 ≤ a ∧ a < m ∧ 1 ≤ lo ∧ lo ≤ hi ∧ hi < m ∧ m ≤ 4294967296

theorem first_zero {m lo hi : Int} (h : FirstPre 0 m lo hi) : FirstSpec 0 m lo hi 0 false := by
 obtain ⟨h1, h2, h3, h4, h5, h6⟩ := h
 refine .inr ⟨rfl, rfl, fun k hk => ?_⟩
 have := hk.2.1
 rw [Int.mul_zero, Int.zero_emod] at this
 omega

theorem div_form (x a : Int) (ha : 0 < a) : x = a * (x / a) + x % a ∧ 0 ≤ x % a ∧ x % a < a :=
 ⟨(Int.mul_ediv_add_emod x a).symm, Int.emod_nonneg _ (by omega), Int.emod_lt_of_pos _ ha⟩
theorem ceil_form (x a : Int) (ha : 0 < a) (hx : 0 ≤ x) : x ≤ (x + a - 1) / a * a ∧ (x + a - 1) / a * a ≤ x + a - 1 ∧ 0 ≤ (x + a - 1) / a := by
 obtain ⟨h1, h2, h3⟩ := div_form (x + a - 1) a ha
 rw [Int.mul_comm a] at h1
 exact ⟨by omega, by omega, Int.ediv_nonneg (by omega) (by omega)⟩
theorem ceil_le (x a k : Int) (ha : 0 < a) (h : x ≤ k * a) : (x + a - 1) / a ≤ k := by
 have : (x + a - 1) / a < k + 1 := Int.ediv_lt_of_lt_mul ha (by rw [Int.add_mul]; omega)
 omega

theorem first_near {a m lo hi : Int} (h : FirstPre a m lo hi) (ha : 0 < a) (hn : (lo + a - 1) / a * a ≤ hi) : FirstSpec a m lo hi ((lo + a - 1) / a) true := by
 obtain ⟨h1, h2, h3, h4, h5, h6⟩ := h
 obtain ⟨c1, c2, c3⟩ := ceil_form lo a ha (by omega)
 have e : (lo + a - 1) / a * a % m = (lo + a - 1) / a * a := Int.emod_eq_of_lt (by omega) (by omega)
 refine .inl ⟨rfl, ⟨c3, by rw [e]; exact c1, by rw [e]; exact hn⟩, ?_, fun k hk => ?_⟩
 ·have : (lo + a - 1) / a * 1 ≤ (lo + a - 1) / a * a := Int.mul_le_mul_of_nonneg_left (by omega) c3
  omega
 ·by_cases g : k * a < lo
  ·exfalso
   have k0 : 0 ≤ k * a := Int.mul_nonneg hk.1 (by omega)
   have := hk.2.1
   rw [Int.emod_eq_of_lt k0 (by omega)] at this
   omega
  ·exact ceil_le lo a k ha (by omega)

theorem far_form {a m lo hi : Int} (h : FirstPre a m lo hi) (ha : 0 < a) (hn : ¬ (lo + a - 1) / a * a ≤ hi) :
  lo / a = hi / a ∧ 1 ≤ lo % a ∧ lo % a ≤ hi % a ∧ hi % a < a := by
 obtain ⟨h1, h2, h3, h4, h5, h6⟩ := h
 obtain ⟨l1, l2, l3⟩ := div_form lo a ha
 obtain ⟨g1, g2, g3⟩ := div_form hi a ha
 have p : lo % a ≠ 0 := by
  intro e
  have : (lo + a - 1) / a ≤ lo / a := ceil_le lo a _ ha (by rw [Int.mul_comm]; omega)
  have : (lo + a - 1) / a * a ≤ lo / a * a := Int.mul_le_mul_of_nonneg_right this (by omega)
  rw [Int.mul_comm (lo / a)] at this
  omega
 have q : lo / a = hi / a := by
  have a1 : lo / a ≤ hi / a := Int.ediv_le_ediv ha h4
  have a2 : ¬ lo / a < hi / a := by
   intro g
   have : (lo + a - 1) / a ≤ hi / a := ceil_le lo a _ ha (by
    have : (lo / a + 1) * a ≤ hi / a * a := Int.mul_le_mul_of_nonneg_right (by omega) (by omega)
    rw [Int.add_mul, Int.mul_comm (lo / a)] at this
    omega)
   have : (lo + a - 1) / a * a ≤ hi / a * a := Int.mul_le_mul_of_nonneg_right this (by omega)
   rw [Int.mul_comm (hi / a)] at this
   omega
  omega
 rw [q] at l1
 exact ⟨q, by omega, by omega, g3⟩
theorem far_pre {a m lo hi : Int} (h : FirstPre a m lo hi) (ha : 0 < a) (hn : ¬ (lo + a - 1) / a * a ≤ hi) :
  FirstPre (m % a) a ((a - hi % a) % a) ((a - lo % a) % a) ∧ (a - hi % a) % a = a - hi % a ∧ (a - lo % a) % a = a - lo % a := by
 obtain ⟨f1, f2, f3, f4⟩ := far_form h ha hn
 obtain ⟨h1, h2, h3, h4, h5, h6⟩ := h
 have e1 : (a - hi % a) % a = a - hi % a := Int.emod_eq_of_lt (by omega) (by omega)
 have e2 : (a - lo % a) % a = a - lo % a := Int.emod_eq_of_lt (by omega) (by omega)
 have m1 := Int.emod_nonneg m (show a ≠ 0 by omega)
 have m2 := Int.emod_lt_of_pos m ha
 rw [e1, e2]
 exact ⟨⟨m1, m2, by omega, by omega, by omega, by omega⟩, rfl, rfl⟩

theorem mod_mul (t m a : Int) : t * (m % a) % a = m * t % a := by
 rw [Int.mul_emod, Int.emod_emod_of_dvd m (Int.dvd_refl a), ← Int.mul_emod, Int.mul_comm]

theorem far_down {a m lo hi k : Int} (h : FirstPre a m lo hi) (ha : 0 < a) (hn : ¬ (lo + a - 1) / a * a ≤ hi) (hk : Hit a m lo hi k) :
  Hit (m % a) a ((a - hi % a) % a) ((a - lo % a) % a) (k * a / m) ∧ m * (k * a / m) + lo ≤ k * a := by
 obtain ⟨f1, f2, f3, f4⟩ := far_form h ha hn
 obtain ⟨_, e1, e2⟩ := far_pre h ha hn
 obtain ⟨h1, h2, h3, h4, h5, h6⟩ := h
 obtain ⟨k0, k1, k2⟩ := hk
 obtain ⟨d1, d2, d3⟩ := div_form (k * a) m (by omega)
 obtain ⟨l1, l2, l3⟩ := div_form lo a ha
 obtain ⟨g1, g2, g3⟩ := div_form hi a ha
 have t0 : 0 ≤ k * a / m := Int.ediv_nonneg (Int.mul_nonneg k0 (by omega)) (by omega)
 refine ⟨⟨t0, ?_⟩, by omega⟩
 rw [mod_mul, e1, e2]
 -- m t = k a - v, v = q a + s
 generalize hv : k * a % m = v at *
 generalize ht : k * a / m = t at *
 have hs : m * t % a = a - (v - a * (lo / a)) := by
  have e : m * t = a - (v - a * (lo / a)) + a * (k - lo / a - 1) := by
   rw [Int.mul_sub, Int.mul_sub, Int.mul_one, Int.mul_comm a k]; omega
  rw [e, Int.add_mul_emod_self_left]
  rw [f1] at l1 ⊢
  exact Int.emod_eq_of_lt (by omega) (by omega)
 rw [hs]
 rw [f1] at l1 ⊢
 omega

theorem far_up {a m lo hi t : Int} (h : FirstPre a m lo hi) (ha : 0 < a) (hn : ¬ (lo + a - 1) / a * a ≤ hi)
  (ht : Hit (m % a) a ((a - hi % a) % a) ((a - lo % a) % a) t) :
  ∃ v, lo ≤ v ∧ v ≤ hi ∧ (lo + m * t + a - 1) / a * a = m * t + v := by
 obtain ⟨f1, f2, f3, f4⟩ := far_form h ha hn
 obtain ⟨_, e1, e2⟩ := far_pre h ha hn
 obtain ⟨h1, h2, h3, h4, h5, h6⟩ := h
 obtain ⟨t0, t1, t2⟩ := ht
 rw [mod_mul, e1] at t1
 rw [mod_mul, e2] at t2
 obtain ⟨l1, l2, l3⟩ := div_form lo a ha
 obtain ⟨g1, g2, g3⟩ := div_form hi a ha
 obtain ⟨d1, d2, d3⟩ := div_form (m * t) a ha
 rw [f1] at l1
 have mt0 : 0 ≤ m * t := Int.mul_nonneg (by omega) t0
 -- the multiple is a (u + 1 + q)
 refine ⟨a * (hi / a) + (a - m * t % a), by omega, by omega, ?_⟩
 have e : m * t + (a * (hi / a) + (a - m * t % a)) = (m * t / a + 1 + hi / a) * a := by
  rw [Int.add_mul, Int.add_mul, Int.one_mul, Int.mul_comm (m * t / a), Int.mul_comm (hi / a)]; omega
 rw [e]
 congr 1
 apply Int.le_antisymm
 ·exact ceil_le _ a _ ha (by rw [← e]; omega)
 ·-- below it there is none
  obtain ⟨c1, c2, c3⟩ := ceil_form (lo + m * t) a ha (by omega)
  generalize (lo + m * t + a - 1) / a = n at *
  have : ¬ n < m * t / a + 1 + hi / a := by
   intro g
   have g2 : (n + 1) * a ≤ (m * t / a + 1 + hi / a) * a := Int.mul_le_mul_of_nonneg_right (by omega) (by omega)
   rw [← e, Int.add_mul, Int.one_mul] at g2
   omega
  omega

theorem first_far_none {a m lo hi n : Int} (h : FirstPre a m lo hi) (ha : 0 < a) (hn : ¬ (lo + a - 1) / a * a ≤ hi)
  (hs : FirstSpec (m % a) a ((a - hi % a) % a) ((a - lo % a) % a) n false) : FirstSpec a m lo hi 0 false := by
 rcases hs with ⟨c, _⟩ | ⟨_, _, hs⟩
 ·cases c
 ·exact .inr ⟨rfl, rfl, fun k hk => hs _ (far_down h ha hn hk).1⟩
theorem first_far_some {a m lo hi t : Int} (h : FirstPre a m lo hi) (ha : 0 < a) (hn : ¬ (lo + a - 1) / a * a ≤ hi)
  (hs : FirstSpec (m % a) a ((a - hi % a) % a) ((a - lo % a) % a) t true) : FirstSpec a m lo hi ((lo + m * t + a - 1) / a) true := by
 rcases hs with ⟨_, ht, hlt, hmin⟩ | ⟨c, _⟩
 ·obtain ⟨v, v1, v2, e⟩ := far_up h ha hn ht
  have hp := h
  obtain ⟨h1, h2, h3, h4, h5, h6⟩ := h
  have mt0 : 0 ≤ m * t := Int.mul_nonneg (by omega) ht.1
  obtain ⟨c1, c2, c3⟩ := ceil_form (lo + m * t) a ha (by omega)
  have em : (lo + m * t + a - 1) / a * a % m = v := by
   rw [e, Int.add_comm, Int.add_mul_emod_self_left]; exact Int.emod_eq_of_lt (by omega) (by omega)
  refine .inl ⟨rfl, ⟨c3, by omega, by omega⟩, ?_, fun k hk => ?_⟩
  ·have g : m * (t + 1) ≤ m * a := Int.mul_le_mul_of_nonneg_left (by omega) (by omega)
   rw [Int.mul_add, Int.mul_one] at g
   have g2 : ¬ m * a ≤ (lo + m * t + a - 1) / a * a := by omega
   apply Int.lt_of_not_ge
   intro g3
   exact g2 (Int.mul_le_mul_of_nonneg_right g3 (by omega))
  ·obtain ⟨d1, d2⟩ := far_down hp ha hn hk
   have d3 : m * t ≤ m * (k * a / m) := Int.mul_le_mul_of_nonneg_left (hmin _ d1) (by omega)
   exact ceil_le _ a k ha (by omega)
 ·cases c
theorem first_far_bd {a m lo hi t : Int} (h : FirstPre a m lo hi) (ht0 : 0 ≤ t) (ht : t < a) :
  0 ≤ m * t ∧ m * t ≤ 18446744065119617024 := by
 obtain ⟨h1, h2, h3, h4, h5, h6⟩ := h
 refine ⟨Int.mul_nonneg (by omega) ht0, ?_⟩
 have : m * t ≤ 4294967296 * 4294967294 := Int.mul_le_mul h6 (by omega) ht0 (by omega)
 omega
theorem ceil_code (x a : Int) (ha : 0 < a) (hx : 0 ≤ x) : (x + a - 1) / a = if x / a * a = x then x / a else x / a + 1 := by
 obtain ⟨h1, h2, h3⟩ := div_form x a ha
 rw [Int.mul_comm] at h1
 obtain ⟨c1, c2, c3⟩ := ceil_form x a ha hx
 split
 ·rename_i g
  apply Int.le_antisymm
  ·exact ceil_le x a _ ha (by omega)
  ·have : ¬ (x + a - 1) / a < x / a := by
    intro k
    have : ((x + a - 1) / a + 1) * a ≤ x / a * a := Int.mul_le_mul_of_nonneg_right (by omega) (by omega)
    rw [Int.add_mul] at this; omega
   omega
 ·rename_i g
  apply Int.le_antisymm
  ·exact ceil_le x a _ ha (by rw [Int.add_mul]; omega)
  ·have : ¬ (x + a - 1) / a < x / a + 1 := by
    intro k
    have : (x + a - 1) / a * a ≤ x / a * a := Int.mul_le_mul_of_nonneg_right (by omega) (by omega)
    omega
   omega
theorem first_exists : ∀ (f : Nat) (a m lo hi : Int), a < f → FirstPre a m lo hi → ∃ n ok, FirstSpec a m lo hi n ok
 | 0, a, m, lo, hi, hf, h => by have := h.1; omega
 | f + 1, a, m, lo, hi, hf, h => by
  by_cases ha : a = 0
  ·subst ha; exact ⟨_, _, first_zero h⟩
  ·have ha : 0 < a := by have := h.1; omega
   by_cases hn : (lo + a - 1) / a * a ≤ hi
   ·exact ⟨_, _, first_near h ha hn⟩
   ·obtain ⟨hp, _⟩ := far_pre h ha hn
    obtain ⟨t, ok, hs⟩ := first_exists f _ _ _ _ (by have := Int.emod_lt_of_pos m ha; omega) hp
    cases ok
    ·exact ⟨_, _, first_far_none h ha hn hs⟩
    ·exact ⟨_, _, first_far_some h ha hn hs⟩
theorem first_unique {a m lo hi n k : Int} {b c : Bool} (h : FirstSpec a m lo hi n b) (g : FirstSpec a m lo hi k c) : n = k ∧ b = c := by
 rcases h with ⟨rfl, h1, _, h3⟩ | ⟨rfl, rfl, h3⟩ <;> rcases g with ⟨rfl, g1, _, g3⟩ | ⟨rfl, rfl, g3⟩
 ·exact ⟨Int.le_antisymm (h3 _ g1) (g3 _ h1), rfl⟩
 ·exact absurd h1 (g3 _)
 ·exact absurd g1 (h3 _)
 ·exact ⟨rfl, rfl⟩
end Go.Proofs.YtbbbflnnbbaamaaGreatDoor
