/- Walks of until, outside, trips, Trips. -/
import Derived.Test.YtodkfjdifchibaaDoorW4
import Derived.Test.YtodkfjdifchibaaDoorR
namespace Go.Proofs.YtodkfjdifchibaaDoor
open Go.RowKit

theorem until_res {m s t lo hi n : Int} {e ok : Bool} (h : UntilSpec m s t lo hi e n ok) (hp : UntilPre m s t lo hi e) : 0 ≤ n ∧ n < m := by
  obtain ⟨a1, a2, a3, a4, a5, a6⟩ := hp
  rcases h with ⟨_, _, h1, h2, _⟩ | ⟨_, h2, _⟩
  · exact ⟨h1.1, h2⟩
  · omega

set_option maxHeartbeats 1000000 in
theorem until_any (n s t lo hi r : Int) (em ok : Bool) (w : World) (h1 : 1 ≤ n) (h2 : n ≤ 32) (hp : UntilPre (2 ^ n.toNat) s t lo hi em) (hs : UntilSpec (2 ^ n.toNat) s t lo hi em r ok) :
    Calls Tryd.prog 27 #[.int .i64 n, .int .u64 s, .int .u64 t, .agg #[.int .u64 lo, .int .u64 hi, .bool em]] w fun e w' => e = .returned (.tuple #[.int .i64 r, .bool ok]) ∧ Below w.heap.size w w' := by
  have ww := wwrap n h2
  obtain ⟨p1, p2⟩ := pow_bd n h2
  cases em
  · by_cases hn : lo ≤ s ∧ s ≤ hi
    · obtain ⟨rfl, rfl⟩ := until_unique hs (until_now hp hn.1 hn.2)
      obtain ⟨hn1, hn2⟩ := hn
      clear hs hp
      go_enter Tryd.func27, Tryd.ntmps27
      go_wp2_with fail
      go_ret2
      exact ⟨rfl, (Below.refl _ _).alloc (Nat.le_refl _) _⟩
    · obtain ⟨k, ok', hf⟩ := first_exists (t.toNat + 1) t _ _ _ (by have := hp.2.2.1; omega) (until_pre hp hn)
      obtain ⟨rfl, rfl⟩ := until_unique hs (until_first hp hn hf)
      have hr := until_res hs hp
      have hpre := until_pre hp hn
      obtain ⟨a1, a2, a3, a4, a5, a6⟩ := hp
      obtain ⟨b1, b2, b3⟩ := a6 rfl
      obtain ⟨r0, r1⟩ := hr
      have hc := fun w => first_any t.toNat.succ t _ _ _ r ok w (by omega) hpre hf
      clear hs hf hpre
      have w1 : IntKind.u64.wrap (lo + 2 ^ n.toNat) = lo + 2 ^ n.toNat := by rw [IntKind.wrap_u64]; omega
      have w2 : IntKind.u64.wrap (hi + 2 ^ n.toNat) = hi + 2 ^ n.toNat := by rw [IntKind.wrap_u64]; omega
      have w3 : IntKind.u64.wrap (lo + 2 ^ n.toNat - s) = lo + 2 ^ n.toNat - s := by rw [IntKind.wrap_u64]; omega
      have w4 : IntKind.u64.wrap (hi + 2 ^ n.toNat - s) = hi + 2 ^ n.toNat - s := by rw [IntKind.wrap_u64]; omega
      have p3 : ¬ (2 : Int) ^ n.toNat = 0 := by omega
      have t1 : (lo + 2 ^ n.toNat - s).tmod (2 ^ n.toNat) = (lo + 2 ^ n.toNat - s) % 2 ^ n.toNat := Int.tmod_eq_emod_of_nonneg (by omega)
      have t2 : (hi + 2 ^ n.toNat - s).tmod (2 ^ n.toNat) = (hi + 2 ^ n.toNat - s) % 2 ^ n.toNat := Int.tmod_eq_emod_of_nonneg (by omega)
      have HC := Lib.hid hc; clear hc
      by_cases hls : lo ≤ s
      · have hsh : ¬ s ≤ hi := fun g => hn ⟨hls, g⟩
        clear hn
        go_enter Tryd.func27, Tryd.ntmps27
        go_wp2_with fail
        go_quiet ((go_at_call 38; exact Calls.quiet_of (HC.out _)))
        go_wp2_with fail
        go_ret2
        exact ⟨rfl, below_drewN ((Below.refl _ _).alloc (Nat.le_refl _) _) _⟩
      · clear hn
        go_enter Tryd.func27, Tryd.ntmps27
        go_wp2_with fail
        go_quiet ((go_at_call 38; exact Calls.quiet_of (HC.out _)))
        go_wp2_with fail
        go_ret2
        exact ⟨rfl, below_drewN ((Below.refl _ _).alloc (Nat.le_refl _) _) _⟩
  · obtain ⟨rfl, rfl⟩ := until_unique hs until_empty
    clear hs hp
    go_enter Tryd.func27, Tryd.ntmps27
    go_wp2_with fail
    go_ret2
    exact ⟨rfl, (Below.refl _ _).alloc (Nat.le_refl _) _⟩

/-- The stretch of the words for which a predicate does not hold. -/
theorem outside2 (b most : Int) (w : World) :
    Calls Tryd.prog 28 #[.int .i64 2, .int .u64 b, .int .u64 most] w fun e w' => e = .returned (.agg #[.int .u64 b, .int .u64 most, .bool false]) ∧ Below w.heap.size w w' := by
  go_enter Tryd.func28, Tryd.ntmps28
  go_wp2_with fail
  exact bodyPost_ret (v := .agg #[.int .u64 b, .int .u64 most, .bool false]) (by simp [results, Tryd.results28, go_sem]) rfl ⟨rfl, (Below.refl _ _).alloc (Nat.le_refl _) _⟩
theorem outside3 (b most : Int) (w : World) (b0 : 0 ≤ b) (b1 : b ≤ 4294967295) :
    Calls Tryd.prog 28 #[.int .i64 3, .int .u64 b, .int .u64 most] w fun e w' => e = .returned (.agg #[.int .u64 (b + 1), .int .u64 most, .bool (b == most)]) ∧ Below w.heap.size w w' := by
  go_enter Tryd.func28, Tryd.ntmps28
  go_wp2_with fail
  exact bodyPost_ret (v := .agg #[.int .u64 (b + 1), .int .u64 most, .bool (b == most)]) (by simp [results, Tryd.results28, go_sem]) rfl ⟨rfl, (Below.refl _ _).alloc (Nat.le_refl _) _⟩
theorem outside4 (b most : Int) (w : World) :
    Calls Tryd.prog 28 #[.int .i64 4, .int .u64 b, .int .u64 most] w fun e w' => e = .returned (.agg #[.int .u64 0, .int .u64 b, .bool false]) ∧ Below w.heap.size w w' := by
  go_enter Tryd.func28, Tryd.ntmps28
  go_wp2_with fail
  exact bodyPost_ret (v := .agg #[.int .u64 0, .int .u64 b, .bool false]) (by simp [results, Tryd.results28, go_sem]) rfl ⟨rfl, (Below.refl _ _).alloc (Nat.le_refl _) _⟩
theorem outside5 (b most : Int) (w : World) :
    Calls Tryd.prog 28 #[.int .i64 5, .int .u64 b, .int .u64 most] w fun e w' => e = .returned (.agg #[.int .u64 0, .int .u64 (IntKind.u64.wrap (b - 1)), .bool (b == 0)]) ∧ Below w.heap.size w w' := by
  go_enter Tryd.func28, Tryd.ntmps28
  go_wp2_with fail
  exact bodyPost_ret (v := .agg #[.int .u64 0, .int .u64 (IntKind.u64.wrap (b - 1)), .bool (b == 0)]) (by simp [results, Tryd.results28, go_sem]) rfl ⟨rfl, (Below.refl _ _).alloc (Nat.le_refl _) _⟩

/-- Two numbers compared. -/
def cmpI (p a b : Int) : Bool :=
  if p = 0 then a == b else if p = 1 then a != b else if p = 2 ∨ p = 6 then decide (a < b) else if p = 3 ∨ p = 7 then decide (a ≤ b) else if p = 4 ∨ p = 8 then decide (b < a) else decide (b ≤ a)
theorem rcompare_any (p a b : Int) (w : World) (hp : 0 ≤ p) (hp9 : p ≤ 9) :
    Calls Tryd.prog 34 #[.int .i64 p, .int .i64 a, .int .i64 b] w fun e w' => e = .returned (.bool (cmpI p a b)) ∧ w = w' := by
  have h : p = 0 ∨ p = 1 ∨ p = 2 ∨ p = 3 ∨ p = 4 ∨ p = 5 ∨ p = 6 ∨ p = 7 ∨ p = 8 ∨ p = 9 := by omega
  rcases h with rfl | rfl | rfl | rfl | rfl | rfl | rfl | rfl | rfl | rfl
  all_goals
    go_enter Tryd.func34, Tryd.ntmps34
    go_wp2_with fail
    go_ret
    exact ⟨by simp [cmpI], rfl⟩

/-- A word's signed value. -/
def sgn (n x : Int) : Int := if 2 ^ (n.toNat - 1) ≤ x then x - 2 ^ n.toNat else x
theorem rsize_any (n : Int) (w : World) (h1 : 0 ≤ n) (h2 : n ≤ 32) :
    Calls Tryd.prog 40 #[.int .i64 n] w fun e w' => e = .returned (.int .i64 (2 ^ n.toNat)) ∧ w = w' := by
  have pw := w64 _ (pow_bd n h2).1 (pow_bd n h2).2
  go_enter Tryd.func40, Tryd.ntmps40
  go_wp2_with fail
  go_ret
  exact ⟨ret_int pw, rfl⟩
theorem rIsWord1_any (n x : Int) (w : World) (x0 : 0 ≤ x) (x1 : x ≤ 4294967295) :
    Calls Tryd.prog 33 #[.int .i64 n, .int .u32 x] w fun e w' => e = .returned (.bool (isW n && decide (x ≤ mx n))) ∧ w = w' := by
  cases h : isW n
  · go_enter Tryd.func33, Tryd.ntmps33
    go_wp2_with (first | (go_at_call 39; refine (rIsWidth_any _ _).mono ?_; rintro e w' ⟨rfl, rfl⟩))
    go_ret
    exact ⟨rfl, rfl⟩
  · have hh := isW_iff.1 h
    have h1 := hh.1; have h2 := hh.2
    have e : decide (x < 2 ^ n.toNat) = (true && decide (x ≤ mx n)) := by
      rw [Bool.true_and, decide_eq_decide]; unfold mx; omega
    have E := Lib.hid e; clear e hh
    go_enter Tryd.func33, Tryd.ntmps33
    go_wp2_with (first | (go_at_call 39; refine (rIsWidth_any _ _).mono ?_; rintro e w' ⟨rfl, rfl⟩) | (go_at_call 40; refine (rsize_any _ _ (by omega) h2).mono ?_; rintro e w' ⟨rfl, rfl⟩))
    go_ret
    exact ⟨ret_bool E.out, rfl⟩
theorem rSign_any (n x : Int) (w : World) (h1 : 1 ≤ n) (h2 : n ≤ 32) (x0 : 0 ≤ x) (x1 : x ≤ 4294967295) :
    Calls Tryd.prog 35 #[.int .i64 n, .int .u32 x] w fun e w' => e = .returned (.int .i64 (sgn n x)) ∧ w = w' := by
  unfold sgn
  obtain ⟨p1, p2⟩ := pow_bd n h2
  by_cases h : 2 ^ (n.toNat - 1) ≤ x
  · rw [if_pos h]
    go_enter Tryd.func35, Tryd.ntmps35
    go_wp2_with fail
    refine (rsize_any _ _ (by omega) (by omega)).mono ?_; rintro e w' ⟨rfl, rfl⟩
    go_wp2_with fail
    refine (rsize_any _ _ (by omega) (by omega)).mono ?_; rintro e w' ⟨rfl, rfl⟩
    go_wp2_with fail
    go_ret
    exact ⟨rfl, rfl⟩
  · rw [if_neg h]
    go_enter Tryd.func35, Tryd.ntmps35
    go_wp2_with fail
    refine (rsize_any _ _ (by omega) (by omega)).mono ?_; rintro e w' ⟨rfl, rfl⟩
    go_wp2_with fail
    go_ret
    exact ⟨rfl, rfl⟩
theorem rIsPredicate_any (p : Int) (w : World) :
    Calls Tryd.prog 32 #[.int .i64 p] w fun e w' => e = .returned (.bool (decide (0 ≤ p) && decide (p ≤ 9))) ∧ w = w' := by
  go_enter Tryd.func32, Tryd.ntmps32
  go_wp2
  · go_ret; exact ⟨by simp [*], rfl⟩
  · go_ret; exact ⟨by simp [*]; omega, rfl⟩
/-- A predicate of two words. -/
def cmpV (p n a b : Int) : Bool := if 6 ≤ p then cmpI p (sgn n a) (sgn n b) else cmpI p a b
theorem rCompare_ok (p n a b : Int) (w : World) (hp : 0 ≤ p) (hp9 : p ≤ 9) (h : isW n = true) (a0 : 0 ≤ a) (a1 : a ≤ mx n) (b0 : 0 ≤ b) (b1 : b ≤ mx n) :
    Calls Tryd.prog 24 #[.int .i64 p, .int .i64 n, .int .u32 a, .int .u32 b] w fun e w' => e = .returned (.tuple #[.bool (cmpV p n a b), .int .i64 0]) ∧ w = w' := by
  have h1 := (isW_iff.1 h).1; have h2 := (isW_iff.1 h).2
  obtain ⟨m0, m1⟩ := mx_bd n h2
  have a2 : a ≤ 4294967295 := by omega
  have b2 : b ≤ 4294967295 := by omega
  unfold cmpV
  by_cases h6 : 6 ≤ p
  · rw [if_pos h6]
    go_enter Tryd.func24, Tryd.ntmps24
    go_wp2_with fail
    refine (rIsPredicate_any _ _).mono ?_; rintro e w' ⟨rfl, rfl⟩
    go_wp2_with fail
    refine (rIsWord1_any _ _ _ a0 a2).mono ?_; rintro e w' ⟨rfl, rfl⟩
    go_wp2_with fail
    refine (rIsWord1_any _ _ _ b0 b2).mono ?_; rintro e w' ⟨rfl, rfl⟩
    go_wp2_with fail
    refine (rSign_any _ _ _ h1 h2 a0 a2).mono ?_; rintro e w' ⟨rfl, rfl⟩
    go_wp2_with fail
    refine (rSign_any _ _ _ h1 h2 b0 b2).mono ?_; rintro e w' ⟨rfl, rfl⟩
    go_wp2_with fail
    refine (rcompare_any _ _ _ _ hp hp9).mono ?_; rintro e w' ⟨rfl, rfl⟩
    go_wp2_with fail
    go_ret2
    exact ⟨rfl, rfl⟩
  · rw [if_neg h6]
    go_enter Tryd.func24, Tryd.ntmps24
    go_wp2_with fail
    refine (rIsPredicate_any _ _).mono ?_; rintro e w' ⟨rfl, rfl⟩
    go_wp2_with fail
    refine (rIsWord1_any _ _ _ a0 a2).mono ?_; rintro e w' ⟨rfl, rfl⟩
    go_wp2_with fail
    refine (rIsWord1_any _ _ _ b0 b2).mono ?_; rintro e w' ⟨rfl, rfl⟩
    go_wp2_with fail
    refine (rcompare_any _ _ _ _ hp hp9).mono ?_; rintro e w' ⟨rfl, rfl⟩
    go_wp2_with fail
    go_ret2
    exact ⟨rfl, rfl⟩
end Go.Proofs.YtodkfjdifchibaaDoor
