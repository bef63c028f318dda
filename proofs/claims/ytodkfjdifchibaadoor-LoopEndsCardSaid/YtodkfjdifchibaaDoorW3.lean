/- Walks of trailing zeros and rings. -/
import Derived.Test.YtodkfjdifchibaaDoorW2
namespace Go.Proofs.YtodkfjdifchibaaDoor
open Go.RowKit

/-- The library's table lies in its variable. -/
def Tab (w : World) : Prop := 0 < w.heap.size ∧ ∀ j, j < 32 → w.cell? ⟨0, j, none⟩ = some (.int .u8 (Lib.deBruijn32tab.getD j 0))
theorem Tab.below {w w' : World} (h : Tab w) (hb : Below w.heap.size w w') : Tab w' :=
  ⟨Nat.lt_of_lt_of_le h.1 hb.size, fun j hj => by rw [hb.cell (p := ⟨0, j, none⟩) h.1]; exact h.2 j hj⟩

theorem tz32_core (x k idx : Nat) (w : World) (hx0 : ((x : Int) == 0) = false)
    (key : bits BinOp.and IntKind.u32 (x : Int) (-(x : Int) % 4294967296) * 125613361 % 4294967296 / 134217728 = (idx : Int))
    (hi : idx < 32) (hk : k < 32) (hcell : w.cell? ⟨0, idx, none⟩ = some (.int .u8 k)) :
    Calls Tryd.prog 31 #[.int .u32 x] w fun e w' => e = .returned (.int .i64 k) ∧ w = w' := by
  go_enter Tryd.func31, Tryd.ntmps31
  go_wp2_with (simp only [key])
  go_ret
  exact ⟨rfl, rfl⟩
theorem tz32_zero (w : World) : Calls Tryd.prog 31 #[.int .u32 0] w fun e w' => e = .returned (.int .i64 32) ∧ w = w' := by
  go_enter Tryd.func31, Tryd.ntmps31
  go_wp2
  go_ret
  exact ⟨rfl, rfl⟩
theorem tz32_key (x a : Nat) (hx : x < 4294967296) (hx0 : x ≠ 0) (hlow : x &&& (4294967296 - x) = a) :
    bits BinOp.and IntKind.u32 (x : Int) (-(x : Int) % 4294967296) * 125613361 % 4294967296 / 134217728 = ((a * 125613361 % 4294967296 / 134217728 : Nat) : Int) := by
  have e1 : -(x : Int) % 4294967296 = ((4294967296 - x : Nat) : Int) := by omega
  rw [e1, and_u32_nat x _ hx (by omega), hlow]
  omega
def ctzI (x : Int) : Int := (Lib.ctz 32 x.toNat : Nat)
theorem tz32_any (x : Int) (x0 : 0 ≤ x) (x1 : x ≤ 4294967295) (w : World) (hT : Tab w) :
    Calls Tryd.prog 31 #[.int .u32 x] w fun e w' => e = .returned (.int .i64 (ctzI x)) ∧ w = w' := by
  obtain ⟨x, rfl⟩ := Int.eq_ofNat_of_zero_le x0
  unfold ctzI
  rw [Int.toNat_natCast]
  by_cases hx0 : x = 0
  · subst hx0
    exact tz32_zero w
  · have hx : x < 4294967296 := by omega
    obtain ⟨hlow, hk⟩ := Lib.lowest_bit 32 x hx0 hx
    obtain ⟨hi, htab⟩ := Lib.deBruijn32_at _ hk
    have hcell := hT.2 _ hi
    rw [htab] at hcell
    exact tz32_core x _ _ w (by simp; omega) (tz32_key x _ hx hx0 hlow) hi hk hcell

/-- After so many steps a count is what it was. -/
def ringV (n t : Int) : Int := 2 ^ (n.toNat - Lib.ctz 32 t.toNat)
theorem ctzFrom_eq : ∀ (f j m : Nat), j < f → Lib.ctzFrom f (2 ^ j * (2 * m + 1)) = j
  | 0, _, _, h => by omega
  | f + 1, 0, m, _ => by unfold Lib.ctzFrom; rw [Nat.pow_zero, Nat.one_mul, if_pos (by omega)]
  | f + 1, j + 1, m, h => by
    unfold Lib.ctzFrom
    have e : 2 ^ (j + 1) * (2 * m + 1) = 2 * (2 ^ j * (2 * m + 1)) := by rw [Nat.pow_succ, Nat.mul_comm (2 ^ j) 2, Nat.mul_assoc]
    rw [e, if_neg (by omega), show 2 * (2 ^ j * (2 * m + 1)) / 2 = 2 ^ j * (2 * m + 1) by omega, ctzFrom_eq f j m (by omega)]
    omega
theorem ctz_bd (t : Int) (h0 : 0 < t) (h1 : t ≤ 4294967295) : Lib.ctz 32 t.toNat < 32 := (Lib.lowest_bit 32 t.toNat (by omega) (by omega)).2
theorem ctz_form (t : Int) (h0 : 0 < t) (h1 : t ≤ 4294967295) : ∃ m, t.toNat = 2 ^ Lib.ctz 32 t.toNat * (2 * m + 1) := by
  have e : Lib.ctz 32 t.toNat = Lib.ctzFrom 32 t.toNat := by unfold Lib.ctz; rw [if_neg (by omega)]
  rw [e]
  exact (Lib.ctzFrom_spec 32 t.toNat (by omega) (by omega)).imp fun _ h => h.1
theorem ctz_lt_w (n t : Int) (h0 : 0 < t) (h2 : n ≤ 32) (h1 : t ≤ mx n) : Lib.ctz 32 t.toNat < n.toNat := by
  have b := mx_bd n h2
  obtain ⟨m, hm⟩ := ctz_form t h0 (by omega)
  have h : 2 ^ Lib.ctz 32 t.toNat ≤ t.toNat := by
    conv => rhs; rw [hm]
    exact Nat.le_mul_of_pos_right _ (by omega)
  have : 2 ^ Lib.ctz 32 t.toNat < 2 ^ n.toNat := by
    unfold mx at h1; rw [← pow_nat] at h1; omega
  exact (Nat.pow_lt_pow_iff_right (by decide)).1 this
theorem ring_min (n t : Int) (h1 : 1 ≤ n) (h2 : n ≤ 32) : (2 : Int) ^ (n - min n (ctzI t)).toNat = ringV n t := by
  unfold ringV ctzI
  congr 1
  omega

theorem ring_bd (n t : Int) (h2 : n ≤ 32) : 1 ≤ ringV n t ∧ ringV n t ≤ 4294967296 := by
  unfold ringV
  have h := pow_bd ((n.toNat - Lib.ctz 32 t.toNat : Nat) : Int) (by omega)
  rwa [Int.toNat_natCast] at h

theorem w64 (x : Int) (h0 : 1 ≤ x) (h1 : x ≤ 4294967296) : wrap64 x = x := IntWalk.wrap64_in x (by omega)
theorem Trailing_ok (n t : Int) (w : World) (h : cB n 0 [t] = true) (t0 : 0 ≤ t) (t1 : t ≤ 4294967295) (hT : Tab w) :
    Calls Tryd.prog 23 #[.int .i64 n, .int .u32 t] w fun e w' => e = .returned (.tuple #[.int .i64 (min n (ctzI t)), .int .i64 0]) ∧ Below w.heap.size w w' := by
  have hB : (isW n && allLe (mx n) [t]) = true := by
    have hi := cB_iff.1 h
    rw [Bool.and_eq_true]; exact ⟨isW_iff.2 hi.1, allLe_iff.2 hi.2.2⟩
  have hT' := hT.below ((Below.refl _ w).alloc (Nat.le_refl _) (.cells #[.int .u32 t] 22))
  have HT := Lib.hid hT'; clear hT' hT h
  go_enter Tryd.func23, Tryd.ntmps23
  go_wp2_with (first | (go_at_call 30; refine (fits_any _ _ 1 [t] _ rfl (by omega) (reads1 _ _ _)).mono ?_; rintro e w' ⟨rfl, rfl⟩) | (go_at_call 31; refine (tz32_any t t0 t1 _ HT.out).mono ?_; rintro e w' ⟨rfl, rfl⟩))
  all_goals (go_ret2; exact ⟨ret_pair (by omega), (Below.refl _ _).alloc (Nat.le_refl _) _⟩)

set_option maxHeartbeats 400000 in
theorem Ring_ok (n t : Int) (w : World) (h : cB n 0 [t] = true) (t0 : 0 ≤ t) (t1 : t ≤ 4294967295) (hT : Tab w) :
    Calls Tryd.prog 11 #[.int .i64 n, .int .u32 t] w fun e w' => e = .returned (.tuple #[.int .i64 (ringV n t), .int .i64 0]) ∧ Below w.heap.size w w' := by
  have hi := cB_iff.1 h
  have he := eI_t h
  have h1 := hi.1.1; have h2 := hi.1.2
  have hT' := hT.below ((Below.refl _ w).alloc (Nat.le_refl _) (.cells #[.int .u32 t] 22))
  have HT := Lib.hid hT'; clear hT' hT
  have H := Lib.hid h; clear h hi
  have hr := Lib.hid (ring_min n t h1 h2)
  have hc : 0 ≤ ctzI t := by unfold ctzI; omega
  have hm0 : 0 ≤ min n (ctzI t) := by omega
  have hm1 : min n (ctzI t) ≤ n := by omega
  go_enter Tryd.func11, Tryd.ntmps11
  go_wp2_with (first | (go_at_call 20; refine (counted_any _ _ _ 1 [t] _ rfl (by omega) (reads1 _ _ _)).mono ?_; rintro e w' ⟨rfl, rfl⟩) | (go_at_call 23; refine (Trailing_ok _ _ _ H.out t0 t1 HT.out).mono ?_; rintro e w1 ⟨rfl, hb⟩; generalize min n (ctzI t) = z at *))
  go_ret2
  exact ⟨ret_pair (by rw [hr.out]; exact w64 _ (ring_bd n t h2).1 (ring_bd n t h2).2), ((Below.refl _ _).alloc (Nat.le_refl _) _).trans (hb.mono (by simp))⟩
theorem Ring_bad (n t : Int) (w : World) (h : cB n 0 [t] = false) :
    Calls Tryd.prog 11 #[.int .i64 n, .int .u32 t] w fun e w' => e = .returned (.tuple #[.int .i64 0, .int .i64 1]) ∧ Below w.heap.size w w' := by
  have he := eI_f h
  clear h
  go_enter Tryd.func11, Tryd.ntmps11
  go_wp2_with (first | (go_at_call 20; refine (counted_any _ _ _ 1 [t] _ rfl (by omega) (reads1 _ _ _)).mono ?_; rintro e w' ⟨rfl, rfl⟩))
  go_ret2
  exact ⟨rfl, (Below.refl _ _).alloc (Nat.le_refl _) _⟩

/-- The document's ring, on the way: t without some twos. -/
def RingRel (n t s r : Int) : Prop := 0 ≤ s ∧ s ≤ t ∧ 1 ≤ r ∧ r ≤ 4294967296 ∧ ∃ j : Nat, s * 2 ^ j = t ∧ r * 2 ^ j = 2 ^ n.toNat
theorem RingRel.start {n t : Int} (h0 : 0 ≤ t) (h2 : n ≤ 32) : RingRel n t t (2 ^ n.toNat) := by
  have := pow_bd n h2
  exact ⟨h0, by omega, by omega, by omega, 0, by simp, by simp⟩
theorem RingRel.step {n t s r : Int} (h : RingRel n t s r) (ht : t ≤ mx n) (hs : 0 < s) (he : s % 2 = 0) : RingRel n t (s / 2) (r / 2) := by
  obtain ⟨h0, h1, h2, h3, j, h4, h5⟩ := h
  have hj : (1 : Int) ≤ 2 ^ j := by
    have : 0 < 2 ^ j := Nat.pow_pos (by decide)
    rw [← pow_nat]; omega
  have hr : r % 2 = 0 := by
    by_cases hjn : j < n.toNat
    · obtain ⟨d, hd⟩ : ∃ d, n.toNat = j + (d + 1) := ⟨n.toNat - j - 1, by omega⟩
      rw [hd, Int.pow_add, Int.mul_comm] at h5
      have h6 : r = 2 ^ (d + 1) := Int.eq_of_mul_eq_mul_left (by omega) h5
      rw [h6, Int.pow_succ]; omega
    · exfalso
      have h7 : (2 : Int) ^ n.toNat ≤ 2 ^ j := by
        rw [← pow_nat, ← pow_nat]; exact Int.ofNat_le.2 (Nat.pow_le_pow_right (by decide) (by omega))
      have h8 : 1 * 2 ^ j ≤ s * 2 ^ j := Int.mul_le_mul_of_nonneg_right (by omega) (by omega)
      unfold mx at ht; omega
  refine ⟨by omega, by omega, by omega, by omega, j + 1, ?_, ?_⟩
  · rw [Int.pow_succ, Int.mul_comm (2 ^ j) 2, ← Int.mul_assoc, show s / 2 * 2 = s by omega, h4]
  · rw [Int.pow_succ, Int.mul_comm (2 ^ j) 2, ← Int.mul_assoc, show r / 2 * 2 = r by omega, h5]
theorem RingRel.fin {n t s r : Int} (h : RingRel n t s r) (ht : t ≤ mx n) (h2 : n ≤ 32) (hs : 0 < s) (he : ¬ s % 2 = 0) : r = ringV n t := by
  have hb := mx_bd n h2
  obtain ⟨h0, h1, hr1, hr3, j, h4, h5⟩ := h
  have hj1 : (1 : Int) ≤ 2 ^ j := by
    have : 0 < 2 ^ j := Nat.pow_pos (by decide)
    rw [← pow_nat]; omega
  obtain ⟨u, rfl⟩ := Int.eq_ofNat_of_zero_le h0
  have h4' : u * 2 ^ j = t.toNat := by
    have e : ((u * 2 ^ j : Nat) : Int) = t := by rw [Int.natCast_mul, pow_nat]; exact h4
    omega
  have hf : t.toNat = 2 ^ j * (2 * (u / 2) + 1) := by rw [← h4', Nat.mul_comm]; congr 1; omega
  have hjl : j < 32 := by
    have : 2 ^ j * 1 ≤ 2 ^ j * (2 * (u / 2) + 1) := Nat.mul_le_mul_left _ (by omega)
    have h9 : 2 ^ j < 2 ^ 32 := by omega
    exact (Nat.pow_lt_pow_iff_right (by decide)).1 h9
  have ht0 : t.toNat ≠ 0 := by
    have : 0 < 2 ^ j * (2 * (u / 2) + 1) := Nat.mul_pos (Nat.pow_pos (by decide)) (by omega)
    omega
  have hctz : Lib.ctz 32 t.toNat = j := by unfold Lib.ctz; rw [if_neg ht0, hf, ctzFrom_eq 32 j _ hjl]
  unfold ringV
  rw [hctz]
  have hjn : j < n.toNat := by rw [← hctz]; exact ctz_lt_w n t (by omega) h2 ht
  obtain ⟨d, hd⟩ : ∃ d, n.toNat = j + d := ⟨n.toNat - j, by omega⟩
  rw [hd, Int.pow_add, Int.mul_comm] at h5
  rw [show n.toNat - j = d by omega]
  exact Int.eq_of_mul_eq_mul_left (by omega) h5
theorem ring_zero (n : Int) (h2 : n ≤ 32) : ringV n 0 = 1 := by
  unfold ringV
  rw [show Lib.ctz 32 (0 : Int).toNat = 32 from rfl, show n.toNat - 32 = 0 by omega]; rfl
set_option maxHeartbeats 400000 in
theorem rRing_ok (n t : Int) (w : World) (h : cB n 0 [t] = true) (t0 : 0 ≤ t) (t1 : t ≤ 4294967295) :
    Calls Tryd.prog 19 #[.int .i64 n, .int .u32 t] w fun e w' => e = .returned (.tuple #[.int .i64 (ringV n t), .int .i64 0]) ∧ Below w.heap.size w w' := by
  have hi := cB_iff.1 h
  have he := eI_t h
  have h1 := hi.1.1; have h2 := hi.1.2
  have ht : t ≤ mx n := hi.2.2 0 (by simp)
  have HT := Lib.hid ht
  have hz := ring_zero n h2
  clear h hi ht
  have hst := RingRel.start t0 h2 (n := n)
  have pw := w64 _ (pow_bd n h2).1 (pow_bd n h2).2
  go_enter Tryd.func19, Tryd.ntmps19
  go_wp2_with (first | (go_at_call 22; refine (worded_any _ _ _ 1 [t] _ rfl (by omega) (reads1 _ _ _) (words1 t0 t1)).mono ?_; rintro e w' ⟨rfl, rfl⟩))
  go_loop [1, 7] (fun s r => ∃ sv rv : Int, s = .int .u32 sv ∧ r = .int .i64 rv ∧ RingRel n t sv rv) (fun s _ => (intOf s).toNat)
  case atStart => exact ⟨_, _, rfl, rfl, by rw [pw]; exact hst⟩
  case round =>
    obtain ⟨sv, rv, rfl, rfl, hrr⟩ := hrel
    have s0 : 0 ≤ sv := hrr.1
    have s1 : sv ≤ t := hrr.2.1
    have r0 : 1 ≤ rv := hrr.2.2.1
    have r1 : rv ≤ 4294967296 := hrr.2.2.2.1
    by_cases hp : 0 < sv
    · by_cases he2 : sv % 2 = 0
      · go_wp2
        go_round
        case rel => exact ⟨_, _, rfl, rfl, hrr.step HT.out hp he2⟩
        case measure => simp [intOf]; omega
      · go_wp2
        go_ret2
        exact ⟨ret_pair (hrr.fin HT.out h2 hp he2), (Below.refl _ _).alloc (Nat.le_refl _) _⟩
    · obtain rfl : sv = 0 := by omega
      have h00 : t = 0 := by
        obtain ⟨j, h4, _⟩ := hrr.2.2.2.2
        simpa using h4.symm
      subst h00
      go_wp2
      go_ret2
      exact ⟨ret_pair rfl, (Below.refl _ _).alloc (Nat.le_refl _) _⟩
theorem rRing_bad (n t : Int) (w : World) (h : cB n 0 [t] = false) (t0 : 0 ≤ t) (t1 : t ≤ 4294967295) :
    Calls Tryd.prog 19 #[.int .i64 n, .int .u32 t] w fun e w' => e = .returned (.tuple #[.int .i64 0, .int .i64 1]) ∧ Below w.heap.size w w' := by
  have he := eI_f h
  clear h
  go_enter Tryd.func19, Tryd.ntmps19
  go_wp2_with (first | (go_at_call 22; refine (worded_any _ _ _ 1 [t] _ rfl (by omega) (reads1 _ _ _) (words1 t0 t1)).mono ?_; rintro e w' ⟨rfl, rfl⟩))
  go_ret2
  exact ⟨rfl, (Below.refl _ _).alloc (Nat.le_refl _) _⟩
end Go.Proofs.YtodkfjdifchibaaDoor
