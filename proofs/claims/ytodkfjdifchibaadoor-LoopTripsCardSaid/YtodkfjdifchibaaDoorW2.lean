/- Walks of sums, powers, rings, trailing zeros. -/
import Derived.Test.YtodkfjdifchibaaDoorW1
namespace Go.Proofs.YtodkfjdifchibaaDoor
open Go.RowKit

theorem pairs_odd {n : Int} (h : n % 2 = 1) : (n - 1) / 2 * n = pairs n := by unfold pairs; rw [if_pos h]
theorem pairs_even {n : Int} (h : ¬ n % 2 = 1) : n / 2 * (n - 1) = pairs n := by unfold pairs; rw [if_neg h]
theorem pairs_le (n : Int) (h0 : 0 ≤ n) (h1 : n ≤ 4294967296) : pairs n ≤ 9223372036854775808 := by
  have a := pairs_two n
  have b : n * (n - 1) ≤ 4294967296 * 4294967296 := by
    by_cases g : n = 0
    · subst g; decide
    · exact Int.mul_le_mul h1 (by omega) (by omega) (by omega)
  omega

theorem ret_pair {k : IntKind} {a b : Int} {v : Value} (h : a = b) : Ending.returned (.tuple #[.int k a, v]) = .returned (.tuple #[.int k b, v]) := by rw [h]
theorem total_fin (n s t c A B : Int) (h1 : 0 ≤ n) (h2 : n ≤ 32) (hA : Cg (2 ^ n.toNat) A (c * s)) (hB : Cg (2 ^ n.toNat) B (pairs c * t)) :
    bits .and .u32 ((A + B) % 4294967296) (mx n) = totalV n s t c := by
  rw [and_mx _ _ (by omega) (by omega) h1 h2]
  exact (Cg.mod (pow_dvd32 n h2)).tr (hA.add hB)
theorem u64_dvd (n : Int) (h2 : n ≤ 32) (x : Int) : Cg (2 ^ n.toNat) (IntKind.u64.wrap x) x := by
  rw [IntKind.wrap_u64]; exact Cg.mod (pow_dvd64 n h2)
theorem m32 (n : Int) (h2 : n ≤ 32) (x : Int) : Cg (2 ^ n.toNat) (x % 4294967296) x := Cg.mod (pow_dvd32 n h2)
theorem Cg.comm {m a b : Int} : Cg m (a * b) (b * a) := Cg.of (Int.mul_comm _ _)

set_option maxHeartbeats 400000 in
theorem Total_ok (n s t c : Int) (w : World) (h : cB n c [s, t] = true) :
    Calls Tryd.prog 15 #[.int .i64 n, .int .u32 s, .int .u32 t, .int .i64 c] w fun e w' => e = .returned (.tuple #[.int .u32 (totalV n s t c), .int .i64 0]) ∧ Below w.heap.size w w' := by
  have hi := cB_iff.1 h
  have hw := isW_iff.2 hi.1
  have he := eI_t h
  have h1 := hi.1.1; have h2 := hi.1.2; have h3 := hi.2.1.1; have h4 := hi.2.1.2
  clear hi h
  have h0 : 0 ≤ n := by omega
  by_cases ho : c % 2 = 1
  · have ho' := Lib.hid (pairs_odd ho)
    go_enter Tryd.func15, Tryd.ntmps15
    go_wp2_with (first | (go_at_call 20; refine (counted_any _ _ _ 2 [s, t] _ rfl (by omega) (reads2 _ _ _ _)).mono ?_; rintro e w' ⟨rfl, rfl⟩) | (go_at_call 25; refine (Mask_ok _ _ hw).mono ?_; rintro e w' ⟨rfl, rfl⟩))
    go_ret2
    exact ⟨ret_pair (total_fin n s t c _ _ h0 h2 Cg.comm (((Cg.rfl.mul ((m32 n h2 _).tr (u64_dvd n h2 _))).tr Cg.comm).tr (Cg.of (by rw [ho'.out])))), (Below.refl _ _).alloc (Nat.le_refl _) _⟩
  · have ho' := Lib.hid (pairs_even ho)
    by_cases hz : c = 0
    · subst hz
      go_enter Tryd.func15, Tryd.ntmps15
      go_wp2_with (first | (go_at_call 20; refine (counted_any _ _ _ 2 [s, t] _ rfl (by omega) (reads2 _ _ _ _)).mono ?_; rintro e w' ⟨rfl, rfl⟩) | (go_at_call 25; refine (Mask_ok _ _ hw).mono ?_; rintro e w' ⟨rfl, rfl⟩))
      go_ret2
      refine ⟨?_, (Below.refl _ _).alloc (Nat.le_refl _) _⟩
      have := total_fin n s t 0 0 0 h0 h2 (Cg.of (by simp)) (Cg.of (by rw [show pairs 0 = 0 from rfl]; simp))
      rw [← this]
      rfl
    · have hz' : 1 ≤ c := by omega
      go_enter Tryd.func15, Tryd.ntmps15
      go_wp2_with (first | (go_at_call 20; refine (counted_any _ _ _ 2 [s, t] _ rfl (by omega) (reads2 _ _ _ _)).mono ?_; rintro e w' ⟨rfl, rfl⟩) | (go_at_call 25; refine (Mask_ok _ _ hw).mono ?_; rintro e w' ⟨rfl, rfl⟩))
      go_ret2
      exact ⟨ret_pair (total_fin n s t c _ _ h0 h2 ((Cg.rfl.mul (m32 n h2 _)).tr Cg.comm) (((Cg.rfl.mul ((m32 n h2 _).tr (u64_dvd n h2 _))).tr Cg.comm).tr (Cg.of (by rw [ho'.out])))), (Below.refl _ _).alloc (Nat.le_refl _) _⟩

set_option maxHeartbeats 400000 in
theorem Total_bad (n s t c : Int) (w : World) (h : cB n c [s, t] = false) :
    Calls Tryd.prog 15 #[.int .i64 n, .int .u32 s, .int .u32 t, .int .i64 c] w fun e w' => e = .returned (.tuple #[.int .u32 0, .int .i64 1]) ∧ Below w.heap.size w w' := by
  have he := eI_f h
  clear h
  go_enter Tryd.func15, Tryd.ntmps15
  go_wp2_with (first | (go_at_call 20; refine (counted_any _ _ _ 2 [s, t] _ rfl (by omega) (reads2 _ _ _ _)).mono ?_; rintro e w' ⟨rfl, rfl⟩))
  go_ret2
  exact ⟨rfl, (Below.refl _ _).alloc (Nat.le_refl _) _⟩

theorem word_cg (n x : Int) (w : World) (v : Int) (h1 : 1 ≤ n) (h2 : n ≤ 32) (hx : 0 ≤ x) (hv : x % 2 ^ n.toNat = v) :
    Calls Tryd.prog 26 #[.int .i64 n, .int .u64 x] w fun e w' => e = .returned (.int .u32 v) ∧ w = w' := by
  rw [← hv]; exact word_any n x w h1 h2 hx
theorem u64_nonneg (x : Int) : 0 ≤ IntKind.u64.wrap x := by rw [IntKind.wrap_u64]; omega

set_option maxHeartbeats 400000 in
theorem rTotal_ok (n s t c : Int) (w : World) (h : cB n c [s, t] = true) (hu : WordsU32 [s, t]) :
    Calls Tryd.prog 16 #[.int .i64 n, .int .u32 s, .int .u32 t, .int .i64 c] w fun e w' => e = .returned (.tuple #[.int .u32 (totalV n s t c), .int .i64 0]) ∧ Below w.heap.size w w' := by
  have hi := cB_iff.1 h
  have he := eI_t h
  have h1 := hi.1.1; have h2 := hi.1.2; have h3 := hi.2.1.1; have h4 := hi.2.1.2
  have s0 : 0 ≤ s := (hu 0 (by simp)).1; have s1 : s ≤ 4294967295 := (hu 0 (by simp)).2
  have t0 : 0 ≤ t := (hu 1 (by simp)).1; have t1 : t ≤ 4294967295 := (hu 1 (by simp)).2
  clear hi h
  have HU := Lib.hid hu; clear hu
  by_cases ho : c % 2 = 1
  · have ho' := Lib.hid (pairs_odd ho)
    go_enter Tryd.func16, Tryd.ntmps16
    go_wp2_with (first | (go_at_call 22; refine (worded_any _ _ _ 2 [s, t] _ rfl (by omega) (reads2 _ _ _ _) HU.out).mono ?_; rintro e w' ⟨rfl, rfl⟩))
    refine (word_cg _ _ _ (totalV n s t c) h1 h2 (u64_nonneg _) ?_).mono ?_
    · exact (u64_dvd n h2 _).tr ((u64_dvd n h2 _).add ((u64_dvd n h2 _).tr (((u64_dvd n h2 _).mul Cg.rfl).tr (Cg.of (by rw [ho'.out])))))
    rintro e w' ⟨rfl, rfl⟩
    go_wp2
    go_ret2
    exact ⟨rfl, (Below.refl _ _).alloc (Nat.le_refl _) _⟩
  · have ho' := Lib.hid (pairs_even ho)
    by_cases hz : c = 0
    · subst hz
      go_enter Tryd.func16, Tryd.ntmps16
      go_wp2_with (first | (go_at_call 22; refine (worded_any _ _ _ 2 [s, t] _ rfl (by omega) (reads2 _ _ _ _) HU.out).mono ?_; rintro e w' ⟨rfl, rfl⟩))
      refine (word_cg _ _ _ (totalV n s t 0) h1 h2 (by omega) ?_).mono ?_
      · unfold totalV; rw [show pairs 0 = 0 from rfl]; simp
      rintro e w' ⟨rfl, rfl⟩
      go_wp2
      go_ret2
      exact ⟨rfl, (Below.refl _ _).alloc (Nat.le_refl _) _⟩
    · have hz' : 1 ≤ c := by omega
      go_enter Tryd.func16, Tryd.ntmps16
      go_wp2_with (first | (go_at_call 22; refine (worded_any _ _ _ 2 [s, t] _ rfl (by omega) (reads2 _ _ _ _) HU.out).mono ?_; rintro e w' ⟨rfl, rfl⟩))
      refine (word_cg _ _ _ (totalV n s t c) h1 h2 (u64_nonneg _) ?_).mono ?_
      · exact (u64_dvd n h2 _).tr ((u64_dvd n h2 _).add ((u64_dvd n h2 _).tr (((u64_dvd n h2 _).mul Cg.rfl).tr (Cg.of (by rw [ho'.out])))))
      rintro e w' ⟨rfl, rfl⟩
      go_wp2
      go_ret2
      exact ⟨rfl, (Below.refl _ _).alloc (Nat.le_refl _) _⟩
set_option maxHeartbeats 400000 in
theorem rTotal_bad (n s t c : Int) (w : World) (h : cB n c [s, t] = false) (hu : WordsU32 [s, t]) :
    Calls Tryd.prog 16 #[.int .i64 n, .int .u32 s, .int .u32 t, .int .i64 c] w fun e w' => e = .returned (.tuple #[.int .u32 0, .int .i64 1]) ∧ Below w.heap.size w w' := by
  have he := eI_f h
  clear h
  have HU := Lib.hid hu; clear hu
  go_enter Tryd.func16, Tryd.ntmps16
  go_wp2_with (first | (go_at_call 22; refine (worded_any _ _ _ 2 [s, t] _ rfl (by omega) (reads2 _ _ _ _) HU.out).mono ?_; rintro e w' ⟨rfl, rfl⟩))
  go_ret2
  exact ⟨rfl, (Below.refl _ _).alloc (Nat.le_refl _) _⟩

/-- A power modulo 2^n. -/
def powV (n b c : Int) : Int := b ^ c.toNat % 2 ^ n.toNat
/-- What holds at each round's head: the rest of the power times what there is. -/
def PowRel (b : Int) (c : Int) (o x r : Int) : Prop := 0 ≤ r ∧ 0 ≤ o ∧ o ≤ 4294967295 ∧ 0 ≤ x ∧ x ≤ 4294967295 ∧ Cg 4294967296 (o * x ^ r.toNat) (b ^ c.toNat)
theorem PowRel.start {b c : Int} (h0 : 0 ≤ b) (h1 : b ≤ 4294967295) (hc : 0 ≤ c) : PowRel b c 1 b c := ⟨hc, by omega, by omega, h0, h1, Cg.of (by simp)⟩
theorem sq_pow (x : Int) (k : Nat) : (x * x) ^ k = x ^ (2 * k) := by
  rw [Int.pow_mul]; congr 1; rw [show (2 : Nat) = 1 + 1 from rfl, Int.pow_succ, Int.pow_succ]; simp
theorem Cg.pow {m a b : Int} (h : Cg m a b) (k : Nat) : Cg m (a ^ k) (b ^ k) := by
  induction k with
  | zero => exact Cg.of (by simp)
  | succ k ih => rw [Int.pow_succ, Int.pow_succ]; exact ih.mul h
theorem PowRel.odd {b c o x r : Int} (h : PowRel b c o x r) (hr : r % 2 = 1) : PowRel b c (o * x % 4294967296) (x * x % 4294967296) (r / 2) := by
  obtain ⟨h0, h1, h2, h3, h4, h5⟩ := h
  refine ⟨by omega, by omega, by omega, by omega, by omega, ?_⟩
  refine Cg.tr ?_ h5
  have e : r.toNat = 2 * (r / 2).toNat + 1 := by omega
  refine ((Cg.mod (Int.dvd_refl _)).mul ((Cg.mod (Int.dvd_refl _)).pow _)).tr (Cg.of ?_)
  rw [e, sq_pow, Int.pow_succ, Int.mul_comm (x ^ _) x, Int.mul_assoc]
theorem PowRel.even {b c o x r : Int} (h : PowRel b c o x r) (hr : ¬ r % 2 = 1) : PowRel b c o (x * x % 4294967296) (r / 2) := by
  obtain ⟨h0, h1, h2, h3, h4, h5⟩ := h
  refine ⟨by omega, by omega, by omega, by omega, by omega, ?_⟩
  refine Cg.tr ?_ h5
  have e : r.toNat = 2 * (r / 2).toNat := by omega
  refine (Cg.rfl.mul ((Cg.mod (Int.dvd_refl _)).pow _)).tr (Cg.of ?_)
  rw [e, sq_pow]
theorem PowRel.fin {b c o x n : Int} (h : PowRel b c o x 0) (h2 : n ≤ 32) : o % 2 ^ n.toNat = powV n b c := by
  obtain ⟨h0, h1, h2', h3, h4, h5⟩ := h
  unfold powV
  have h6 : Cg 4294967296 o (b ^ c.toNat) := by simpa using h5
  have := pow_dvd32 n h2
  exact ((Cg.mod this).sym.tr (Cg.of (show o % 4294967296 = _ from h6))).tr (Cg.mod this)

/-- So much is left of a number that is halved 33 times. -/
def HalfLeft (k : Nat) (r : Int) : Prop := r.toNat < 2 ^ (33 - k)
theorem HalfLeft.start {c : Int} (h : c ≤ 4294967296) : HalfLeft 0 c := by unfold HalfLeft; rw [show (33 - 0 : Nat) = 33 from rfl]; omega
theorem HalfLeft.step {k : Nat} {r : Int} (hk : k < 33) (h : HalfLeft k r) : HalfLeft (k + 1) (r / 2) := by
  unfold HalfLeft at *
  rw [show 33 - k = (33 - (k + 1)) + 1 by omega, Nat.pow_succ] at h
  omega
theorem HalfLeft.fin {r : Int} (h : HalfLeft 33 r) (h0 : 0 ≤ r) : r = 0 := by
  unfold HalfLeft at h
  rw [show (33 - 33 : Nat) = 0 from rfl, Nat.pow_zero] at h
  omega
theorem u64_m32 (x : Int) : (IntKind.u64.wrap x).tmod 4294967296 = x % 4294967296 := by
  have h : 0 ≤ IntKind.u64.wrap x := by rw [IntKind.wrap_u64]; omega
  rw [Int.tmod_eq_emod_of_nonneg h, IntKind.wrap_u64]; omega

set_option maxHeartbeats 400000 in
theorem Power_ok (n b c : Int) (w : World) (h : cB n c [b] = true) (b0 : 0 ≤ b) (b1 : b ≤ 4294967295) :
    Calls Tryd.prog 17 #[.int .i64 n, .int .u32 b, .int .i64 c] w fun e w' => e = .returned (.tuple #[.int .u32 (powV n b c), .int .i64 0]) ∧ Below w.heap.size w w' := by
  have hi := cB_iff.1 h
  have hw := isW_iff.2 hi.1
  have he := eI_t h
  have h1 := hi.1.1; have h2 := hi.1.2; have h3 := hi.2.1.1; have h4 := hi.2.1.2
  clear hi h
  go_enter Tryd.func17, Tryd.ntmps17
  go_wp2_with (first | (go_at_call 20; refine (counted_any _ _ _ 1 [b] _ rfl (by omega) (reads1 _ _ _)).mono ?_; rintro e w' ⟨rfl, rfl⟩) | (go_at_call 25; refine (Mask_ok _ _ hw).mono ?_; rintro e w' ⟨rfl, rfl⟩))
  go_loop [1, 2, 11, 25] (fun x r o i => ∃ (k : Nat) (xv rv ov : Int), k ≤ 33 ∧ i = .int .i64 k ∧ x = .int .u32 xv ∧ r = .int .i64 rv ∧ o = .int .u32 ov ∧ PowRel b c ov xv rv ∧ HalfLeft k rv ∧ rv ≤ 4294967296) (fun _ _ _ i => 33 - (intOf i).toNat)
  case atStart => exact ⟨0, b, c, 1, by omega, rfl, rfl, rfl, rfl, PowRel.start b0 b1 h3, HalfLeft.start h4, h4⟩
  case round =>
    obtain ⟨k, xv, rv, ov, hk, rfl, rfl, rfl, rfl, hp, hl, hq⟩ := hrel
    have r0 : 0 ≤ rv := hp.1
    have o0 : 0 ≤ ov := hp.2.1
    have o1 : ov ≤ 4294967295 := hp.2.2.1
    by_cases hlt : k < 33
    · by_cases ho : rv % 2 = 1
      · go_wp2
        go_round
        case rel => exact ⟨k + 1, _, _, _, by omega, by go_num, rfl, rfl, rfl, hp.odd ho, hl.step hlt, by omega⟩
        case measure => simp [intOf]; omega
      · go_wp2
        go_round
        case rel => exact ⟨k + 1, _, _, _, by omega, by go_num, rfl, rfl, rfl, hp.even ho, hl.step hlt, by omega⟩
        case measure => simp [intOf]; omega
    · obtain rfl : k = 33 := by omega
      obtain rfl : rv = 0 := hl.fin r0
      go_wp2
      go_ret2
      exact ⟨ret_pair (by rw [and_mx _ _ o0 (by omega) (by omega) h2]; exact hp.fin h2), (Below.refl _ _).alloc (Nat.le_refl _) _⟩
theorem words1 {b : Int} (b0 : 0 ≤ b) (b1 : b ≤ 4294967295) : WordsU32 [b] := by
  intro k hk
  have hk : k < 1 := hk
  obtain rfl : k = 0 := by omega
  exact ⟨b0, b1⟩
theorem words2 {a b : Int} (a0 : 0 ≤ a) (a1 : a ≤ 4294967295) (b0 : 0 ≤ b) (b1 : b ≤ 4294967295) : WordsU32 [a, b] := by
  intro k hk
  have hk : k < 2 := hk
  match k, hk with
  | 0, _ => exact ⟨a0, a1⟩
  | 1, _ => exact ⟨b0, b1⟩
theorem words3 {a b c : Int} (a0 : 0 ≤ a) (a1 : a ≤ 4294967295) (b0 : 0 ≤ b) (b1 : b ≤ 4294967295) (c0 : 0 ≤ c) (c1 : c ≤ 4294967295) : WordsU32 [a, b, c] := by
  intro k hk
  have hk : k < 3 := hk
  match k, hk with
  | 0, _ => exact ⟨a0, a1⟩
  | 1, _ => exact ⟨b0, b1⟩
  | 2, _ => exact ⟨c0, c1⟩
theorem Power_bad (n b c : Int) (w : World) (h : cB n c [b] = false) :
    Calls Tryd.prog 17 #[.int .i64 n, .int .u32 b, .int .i64 c] w fun e w' => e = .returned (.tuple #[.int .u32 0, .int .i64 1]) ∧ Below w.heap.size w w' := by
  have he := eI_f h
  clear h
  go_enter Tryd.func17, Tryd.ntmps17
  go_wp2_with (first | (go_at_call 20; refine (counted_any _ _ _ 1 [b] _ rfl (by omega) (reads1 _ _ _)).mono ?_; rintro e w' ⟨rfl, rfl⟩))
  go_ret2
  exact ⟨rfl, (Below.refl _ _).alloc (Nat.le_refl _) _⟩
theorem rPower_bad (n b c : Int) (w : World) (h : cB n c [b] = false) (b0 : 0 ≤ b) (b1 : b ≤ 4294967295) :
    Calls Tryd.prog 18 #[.int .i64 n, .int .u32 b, .int .i64 c] w fun e w' => e = .returned (.tuple #[.int .u32 0, .int .i64 1]) ∧ Below w.heap.size w w' := by
  have he := eI_f h
  clear h
  go_enter Tryd.func18, Tryd.ntmps18
  go_wp2_with (first | (go_at_call 22; refine (worded_any _ _ _ 1 [b] _ rfl (by omega) (reads1 _ _ _) (words1 b0 b1)).mono ?_; rintro e w' ⟨rfl, rfl⟩))
  go_ret2
  exact ⟨rfl, (Below.refl _ _).alloc (Nat.le_refl _) _⟩
set_option maxHeartbeats 400000 in
theorem rPower_ok (n b c : Int) (w : World) (h : cB n c [b] = true) (b0 : 0 ≤ b) (b1 : b ≤ 4294967295) :
    Calls Tryd.prog 18 #[.int .i64 n, .int .u32 b, .int .i64 c] w fun e w' => e = .returned (.tuple #[.int .u32 (powV n b c), .int .i64 0]) ∧ Below w.heap.size w w' := by
  have hi := cB_iff.1 h
  have he := eI_t h
  have h1 := hi.1.1; have h2 := hi.1.2; have h3 := hi.2.1.1; have h4 := hi.2.1.2
  clear hi h
  go_enter Tryd.func18, Tryd.ntmps18
  go_wp2_with (first | (go_at_call 22; refine (worded_any _ _ _ 1 [b] _ rfl (by omega) (reads1 _ _ _) (words1 b0 b1)).mono ?_; rintro e w' ⟨rfl, rfl⟩))
  go_loop [2, 9, 10] (fun r o x => ∃ (xv rv ov : Int), x = .int .u64 xv ∧ r = .int .i64 rv ∧ o = .int .u64 ov ∧ PowRel b c ov xv rv ∧ rv ≤ 4294967296) (fun r _ _ => (intOf r).toNat)
  case atStart => exact ⟨b, c, 1, rfl, rfl, rfl, PowRel.start b0 b1 h3, h4⟩
  case round =>
    obtain ⟨xv, rv, ov, rfl, rfl, rfl, hp, hl⟩ := hrel
    have r0 : 0 ≤ rv := hp.1
    have o0 : 0 ≤ ov := hp.2.1
    have o1 : ov ≤ 4294967295 := hp.2.2.1
    have x0 : 0 ≤ xv := hp.2.2.2.1
    have x1 : xv ≤ 4294967295 := hp.2.2.2.2.1
    have e1 := u64_m32 (ov * xv)
    have e2 := u64_m32 (xv * xv)
    by_cases hlt : 0 < rv
    · by_cases ho : rv % 2 = 1
      · go_wp2
        go_round
        case rel => exact ⟨_, _, _, rfl, rfl, rfl, hp.odd ho, by omega⟩
        case measure => simp [intOf]; omega
      · go_wp2
        go_round
        case rel => exact ⟨_, _, _, rfl, rfl, rfl, hp.even ho, by omega⟩
        case measure => simp [intOf]; omega
    · obtain rfl : rv = 0 := by omega
      go_wp2_with (first | (go_at_call 26; refine (word_cg _ _ _ _ h1 h2 o0 (hp.fin h2)).mono ?_; rintro e w' ⟨rfl, rfl⟩))
      go_ret2
      exact ⟨rfl, (Below.refl _ _).alloc (Nat.le_refl _) _⟩
end Go.Proofs.YtodkfjdifchibaaDoor
