/- Packed of several texts. -/
import Derived.Test.YtbbbflnnbbaamaaGreatDoorH50
import Derived.Test.YtbbbflnnbbaamaaGreatDoorH48
namespace Go.Proofs.YtbbbflnnbbaamaaGreatDoor
open Go.RowKit

theorem ret_tt {a b : Int} {c d : Bool} (h : a = b) (g : c = d) {k : IntKind} : Ending.returned (.tuple #[.int k a, .bool c]) = .returned (.tuple #[.int k b, .bool d]) := by rw [h, g]
set_option maxHeartbeats 1000000 in
theorem first_any (f : Nat) : ∀ (a m lo hi n : Int) (ok : Bool) (w : World), a < f → FirstPre a m lo hi → FirstSpec a m lo hi n ok →
  Calls Tryz.prog 81 #[.int .u64 a, .int .u64 m, .int .u64 lo, .int .u64 hi] w fun e w' => e = .returned (.tuple #[.int .u64 n, .bool ok]) ∧ ∃ q, w' = w.drewN q := by
 induction f with
 | zero => intro a m lo hi n ok w hf h; have := h.1; omega
 | succ f ih =>
  intro a m lo hi n ok w hf h hs
  by_cases ha : a = 0
  ·subst ha
   obtain ⟨rfl, rfl⟩ := first_unique hs (first_zero h)
   go_enter Tryz.func81, Tryz.ntmps81
   go_wp2_with fail
   go_ret2
   exact ⟨rfl, 0, rfl⟩
  ·have hp := h
   obtain ⟨h1, h2, h3, h4, h5, h6⟩ := hp
   have ha : 0 < a := by omega
   have hne : (a == 0) = false := by simp; omega
   obtain ⟨c1, c2, c3⟩ := ceil_form lo a ha (by omega)
   have c4 : (lo + a - 1) / a ≤ 18446744073709551615 := by
    have : (lo + a - 1) / a * 1 ≤ (lo + a - 1) / a * a := Int.mul_le_mul_of_nonneg_left (by omega) c3
    omega
   have w1 : IntKind.u64.wrap ((lo + a - 1) / a * a) = (lo + a - 1) / a * a := by rw [IntKind.wrap_u64]; omega
   by_cases hn : (lo + a - 1) / a * a ≤ hi
   ·obtain ⟨rfl, rfl⟩ := first_unique hs (first_near h ha hn)
    go_enter Tryz.func81, Tryz.ntmps81
    go_wp2_with fail
    go_ret2
    exact ⟨rfl, 0, rfl⟩
   ·obtain ⟨hq, q1, q2⟩ := far_pre h ha hn
    obtain ⟨f1, f2, f3, f4⟩ := far_form h ha hn
    have f0 : 0 ≤ hi % a := by omega
    have f5 : 0 ≤ lo % a := by omega
    have f6 : lo % a < a := by omega
    have m1 : 0 ≤ m % a := hq.1
    have m2 : m % a < a := hq.2.1
    obtain ⟨t, ok', ht⟩ := first_exists a.toNat.succ _ _ _ _ (by omega) hq
    have hcall := fun w => ih _ _ _ _ t ok' w (by omega) hq ht
    rw [q1, q2] at hcall
    have t1 : m.tmod a = m % a := Int.tmod_eq_emod_of_nonneg (by omega)
    have t2 : hi.tmod a = hi % a := Int.tmod_eq_emod_of_nonneg (by omega)
    have t3 : lo.tmod a = lo % a := Int.tmod_eq_emod_of_nonneg (by omega)
    have w2 : IntKind.u64.wrap (a - hi % a) = a - hi % a := by rw [IntKind.wrap_u64]; omega
    have w3 : IntKind.u64.wrap (a - lo % a) = a - lo % a := by rw [IntKind.wrap_u64]; omega
    have t4 : (a - hi % a).tmod a = a - hi % a := (Int.tmod_eq_emod_of_nonneg (by omega)).trans q1
    have t5 : (a - lo % a).tmod a = a - lo % a := (Int.tmod_eq_emod_of_nonneg (by omega)).trans q2
    cases ok'
    ·obtain ⟨rfl, rfl⟩ := first_unique hs (first_far_none h ha hn ht)
     have HC := Lib.hid hcall
     clear q1 q2 hcall ih hs h hq ht
     go_enter Tryz.func81, Tryz.ntmps81
     go_wp2_with fail
     go_quiet ((go_at_call 81; exact Calls.quiet_of (HC.out _)))
     go_wp2_with fail
     go_ret2
     exact ⟨rfl, _, rfl⟩
    ·obtain ⟨rfl, rfl⟩ := first_unique hs (first_far_some h ha hn ht)
     have HC := Lib.hid hcall
     obtain ⟨t0, tl⟩ : 0 ≤ t ∧ t < a := by
      rcases ht with ⟨_, g1, g2, _⟩ | ⟨g, _⟩
      ·exact ⟨g1.1, g2⟩
      ·cases g
     obtain ⟨b1, b2⟩ := first_far_bd h t0 tl
     have b3 : 0 ≤ lo + m * t := by omega
     have e1 : IntKind.u64.wrap (lo + IntKind.u64.wrap (m * t)) = lo + m * t := by rw [IntKind.wrap_u64, IntKind.wrap_u64]; omega
     have hcc := Lib.hid (ceil_code (lo + m * t) a ha b3)
     have b4 : (lo + m * t) / a * a ≤ lo + m * t := by
      exact Int.ediv_mul_le _ (by omega)
     have b5 : 0 ≤ (lo + m * t) / a := Int.ediv_nonneg b3 (by omega)
     have b6 : (lo + m * t) / a ≤ lo + m * t := by
      have : (lo + m * t) / a * 1 ≤ (lo + m * t) / a * a := Int.mul_le_mul_of_nonneg_left (by omega) b5
      omega
     have e2 : IntKind.u64.wrap ((lo + m * t) / a * a) = (lo + m * t) / a * a := by
      have : 0 ≤ (lo + m * t) / a * a := Int.mul_nonneg b5 (by omega)
      rw [IntKind.wrap_u64]; omega
     clear q1 q2 hcall ih hs h hq ht
     by_cases hz : (lo + m * t) / a * a = lo + m * t
     ·have hcd : (lo + m * t + a - 1) / a = (lo + m * t) / a := by rw [hcc.out, if_pos hz]
      rw [hcd]; clear hcd hcc
      go_enter Tryz.func81, Tryz.ntmps81
      go_wp2_with fail
      go_quiet ((go_at_call 81; exact Calls.quiet_of (HC.out _)))
      go_wp2_with fail
      go_ret2
      exact ⟨rfl, _, rfl⟩
     ·have hcd : (lo + m * t + a - 1) / a = (lo + m * t) / a + 1 := by rw [hcc.out, if_neg hz]
      rw [hcd]; clear hcd hcc
      go_enter Tryz.func81, Tryz.ntmps81
      go_wp2_with fail
      go_quiet ((go_at_call 81; exact Calls.quiet_of (HC.out _)))
      go_wp2_with fail
      go_ret2
      exact ⟨rfl, _, rfl⟩
end Go.Proofs.YtbbbflnnbbaamaaGreatDoor
namespace Go.Proofs.YtbbbflnnbbaamaaGreatDoor

def InS (m s t lo hi k : Int) : Prop := 0 ≤ k ∧ lo ≤ (s + k * t) % m ∧ (s + k * t) % m ≤ hi
def UntilSpec (m s t lo hi : Int) (empty : Bool) (n : Int) (ok : Bool) : Prop :=
 (ok = true ∧ empty = false ∧ InS m s t lo hi n ∧ n < m ∧ ∀ k, InS m s t lo hi k → n ≤ k) ∨ (ok = false ∧ n = 0 ∧ (empty = true ∨ ∀ k, ¬ InS m s t lo hi k))
def UntilPre (m s t lo hi : Int) (empty : Bool) : Prop := 0 ≤ s ∧ s < m ∧ 0 ≤ t ∧ t < m ∧ m ≤ 4294967296 ∧ (empty = false → 0 ≤ lo ∧ lo ≤ hi ∧ hi < m)

theorem until_empty {m s t lo hi : Int} : UntilSpec m s t lo hi true 0 false := .inr ⟨rfl, rfl, .inl rfl⟩
theorem until_now {m s t lo hi : Int} (h : UntilPre m s t lo hi false) (h1 : lo ≤ s) (h2 : s ≤ hi) : UntilSpec m s t lo hi false 0 true := by
 obtain ⟨a1, a2, a3, a4, a5, a6⟩ := h
 have e : (s + 0 * t) % m = s := by rw [Int.zero_mul, Int.add_zero]; exact Int.emod_eq_of_lt a1 a2
 exact .inl ⟨rfl, rfl, ⟨Int.le_refl _, by rw [e]; exact h1, by rw [e]; exact h2⟩, by omega, fun k hk => hk.1⟩
theorem until_shift {m s lo hi : Int} (x : Int) (hs0 : 0 ≤ s) (hs : s < m) (hl : 0 ≤ lo) (hlh : lo ≤ hi) (hh : hi < m) (hn : ¬ (lo ≤ s ∧ s ≤ hi)) :
  1 ≤ (lo + m - s) % m ∧ (lo + m - s) % m ≤ (hi + m - s) % m ∧ (hi + m - s) % m < m ∧
  ((lo + m - s) % m ≤ x % m ∧ x % m ≤ (hi + m - s) % m ↔ lo ≤ (s + x) % m ∧ (s + x) % m ≤ hi) := by
 have hm : 0 < m := by omega
 have v0 := Int.emod_nonneg x (show m ≠ 0 by omega)
 have v1 := Int.emod_lt_of_pos x hm
 have e : (s + x) % m = (s + x % m) % m := by rw [Int.add_emod s x, Int.add_emod s (x % m), Int.emod_emod_of_dvd x (Int.dvd_refl m)]
 rw [e]
 generalize x % m = v at *
 have ev : (s + v) % m = if s + v < m then s + v else s + v - m := by
  split
  ·exact Int.emod_eq_of_lt (by omega) (by omega)
  ·rw [← Int.emod_eq_of_lt (show 0 ≤ s + v - m by omega) (show s + v - m < m by omega), Int.sub_emod_right]
 rw [ev]
 by_cases hc : s < lo
 ·have e1 : (lo + m - s) % m = lo - s := by
   rw [show lo + m - s = lo - s + m by omega, Int.add_emod_right]; exact Int.emod_eq_of_lt (by omega) (by omega)
  have e2 : (hi + m - s) % m = hi - s := by
   rw [show hi + m - s = hi - s + m by omega, Int.add_emod_right]; exact Int.emod_eq_of_lt (by omega) (by omega)
  rw [e1, e2]
  split <;> omega
 ·have e1 : (lo + m - s) % m = lo + m - s := Int.emod_eq_of_lt (by omega) (by omega)
  have e2 : (hi + m - s) % m = hi + m - s := Int.emod_eq_of_lt (by omega) (by omega)
  rw [e1, e2]
  split <;> omega
theorem until_pre {m s t lo hi : Int} (h : UntilPre m s t lo hi false) (hn : ¬ (lo ≤ s ∧ s ≤ hi)) : FirstPre t m ((lo + m - s) % m) ((hi + m - s) % m) := by
 obtain ⟨a1, a2, a3, a4, a5, a6⟩ := h
 obtain ⟨b1, b2, b3⟩ := a6 rfl
 obtain ⟨c1, c2, c3, _⟩ := until_shift (0 : Int) a1 a2 b1 b2 b3 hn
 exact ⟨a3, a4, c1, c2, c3, a5⟩
theorem until_hit {m s t lo hi k : Int} (h : UntilPre m s t lo hi false) (hn : ¬ (lo ≤ s ∧ s ≤ hi)) : Hit t m ((lo + m - s) % m) ((hi + m - s) % m) k ↔ InS m s t lo hi k := by
 obtain ⟨a1, a2, a3, a4, a5, a6⟩ := h
 obtain ⟨b1, b2, b3⟩ := a6 rfl
 obtain ⟨_, _, _, c⟩ := until_shift (k * t) a1 a2 b1 b2 b3 hn
 unfold Hit InS
 rw [c]
theorem until_first {m s t lo hi n : Int} {ok : Bool} (h : UntilPre m s t lo hi false) (hn : ¬ (lo ≤ s ∧ s ≤ hi))
  (hf : FirstSpec t m ((lo + m - s) % m) ((hi + m - s) % m) n ok) : UntilSpec m s t lo hi false n ok := by
 rcases hf with ⟨rfl, h1, h2, h3⟩ | ⟨rfl, rfl, h3⟩
 ·exact .inl ⟨rfl, rfl, (until_hit h hn).1 h1, h2, fun k hk => h3 k ((until_hit h hn).2 hk)⟩
 ·exact .inr ⟨rfl, rfl, .inr fun k hk => h3 k ((until_hit h hn).2 hk)⟩
theorem until_unique {m s t lo hi n k : Int} {e b c : Bool} (h : UntilSpec m s t lo hi e n b) (g : UntilSpec m s t lo hi e k c) : n = k ∧ b = c := by
 rcases h with ⟨rfl, he, h1, _, h3⟩ | ⟨rfl, rfl, h3⟩ <;> rcases g with ⟨rfl, ge, g1, _, g3⟩ | ⟨rfl, rfl, g3⟩
 ·exact ⟨Int.le_antisymm (h3 _ g1) (g3 _ h1), rfl⟩
 ·rcases g3 with g3 | g3
  ·rw [he] at g3; cases g3
  ·exact absurd h1 (g3 _)
 ·rcases h3 with h3 | h3
  ·rw [ge] at h3; cases h3
  ·exact absurd g1 (h3 _)
 ·exact ⟨rfl, rfl⟩
theorem until_exists (m s t lo hi : Int) (e : Bool) (h : UntilPre m s t lo hi e) : ∃ n ok, UntilSpec m s t lo hi e n ok := by
 cases e
 ·by_cases hn : lo ≤ s ∧ s ≤ hi
  ·exact ⟨_, _, until_now h hn.1 hn.2⟩
  ·obtain ⟨n, ok, hf⟩ := first_exists (t.toNat + 1) t m _ _ (by have := h.2.2.1; omega) (until_pre h hn)
   exact ⟨_, _, until_first h hn hf⟩
 ·exact ⟨_, _, until_empty⟩
end Go.Proofs.YtbbbflnnbbaamaaGreatDoor
namespace Go.Proofs.YtbbbflnnbbaamaaGreatDoor
open Go.RowKit

theorem until_res {m s t lo hi n : Int} {e ok : Bool} (h : UntilSpec m s t lo hi e n ok) (hp : UntilPre m s t lo hi e) : 0 ≤ n ∧ n < m := by
 obtain ⟨a1, a2, a3, a4, a5, a6⟩ := hp
 rcases h with ⟨_, _, h1, h2, _⟩ | ⟨_, h2, _⟩
 ·exact ⟨h1.1, h2⟩
 ·omega

set_option maxHeartbeats 1000000 in
theorem until_any (n s t lo hi r : Int) (em ok : Bool) (w : World) (h1 : 1 ≤ n) (h2 : n ≤ 32) (hp : UntilPre (2 ^ n.toNat) s t lo hi em) (hs : UntilSpec (2 ^ n.toNat) s t lo hi em r ok) :
  Calls Tryz.prog 47 #[.int .i64 n, .int .u64 s, .int .u64 t, .agg #[.int .u64 lo, .int .u64 hi, .bool em]] w fun e w' => e = .returned (.tuple #[.int .i64 r, .bool ok]) ∧ Below w.heap.size w w' := by
 have ww := wwrap n h2
 obtain ⟨p1, p2⟩ := pow_bd n h2
 cases em
 ·by_cases hn : lo ≤ s ∧ s ≤ hi
  ·obtain ⟨rfl, rfl⟩ := until_unique hs (until_now hp hn.1 hn.2)
   obtain ⟨hn1, hn2⟩ := hn
   clear hs hp
   go_enter Tryz.func47, Tryz.ntmps47
   go_wp2_with fail
   go_ret2
   exact ⟨rfl, (Below.refl _ _).alloc (Nat.le_refl _) _⟩
  ·obtain ⟨k, ok', hf⟩ := first_exists (t.toNat + 1) t _ _ _ (by have := hp.2.2.1; omega) (until_pre hp hn)
   obtain ⟨rfl, rfl⟩ := until_unique hs (until_first hp hn hf)
   have hr := until_res hs hp
   have hpre := until_pre hp hn
   obtain ⟨a1, a2, a3, a4, a5, a6⟩ := hp
   obtain ⟨b1, b2, b3⟩ := a6 rfl
   obtain ⟨r0, r1⟩ := hr
   have hc := fun w => first_any t.toNat.succ t _ _ _ r ok w (by omega) hpre hf
   clear hs hf hpre
   have w1 : IntKind.u64.wrap (lo + 2 ^ n.toNat) = lo + 2 ^ n.toNat := by rw [IntKind.wrap_u64]; omega
   have w2 : IntKind.u64.wrap (hi + 2 ^ n.toNat) = hi + 2 ^ n.toNat := by rw [IntKind.wrap_u64]; omega
   have w3 : IntKind.u64.wrap (lo + 2 ^ n.toNat - s) = lo + 2 ^ n.toNat - s := by rw [IntKind.wrap_u64]; omega
   have w4 : IntKind.u64.wrap (hi + 2 ^ n.toNat - s) = hi + 2 ^ n.toNat - s := by rw [IntKind.wrap_u64]; omega
   have p3 : ¬ (2 : Int) ^ n.toNat = 0 := by omega
   have t1 : (lo + 2 ^ n.toNat - s).tmod (2 ^ n.toNat) = (lo + 2 ^ n.toNat - s) % 2 ^ n.toNat := Int.tmod_eq_emod_of_nonneg (by omega)
   have t2 : (hi + 2 ^ n.toNat - s).tmod (2 ^ n.toNat) = (hi + 2 ^ n.toNat - s) % 2 ^ n.toNat := Int.tmod_eq_emod_of_nonneg (by omega)
   have HC := Lib.hid hc; clear hc
   by_cases hls : lo ≤ s
   ·have hsh : ¬ s ≤ hi := fun g => hn ⟨hls, g⟩
    clear hn
    go_enter Tryz.func47, Tryz.ntmps47
    go_wp2_with fail
    go_quiet ((go_at_call 81; exact Calls.quiet_of (HC.out _)))
    go_wp2_with fail
    go_ret2
    exact ⟨rfl, below_drewN ((Below.refl _ _).alloc (Nat.le_refl _) _) _⟩
   ·clear hn
    go_enter Tryz.func47, Tryz.ntmps47
    go_wp2_with fail
    go_quiet ((go_at_call 81; exact Calls.quiet_of (HC.out _)))
    go_wp2_with fail
    go_ret2
    exact ⟨rfl, below_drewN ((Below.refl _ _).alloc (Nat.le_refl _) _) _⟩
 ·obtain ⟨rfl, rfl⟩ := until_unique hs until_empty
  clear hs hp
  go_enter Tryz.func47, Tryz.ntmps47
  go_wp2_with fail
  go_ret2
  exact ⟨rfl, (Below.refl _ _).alloc (Nat.le_refl _) _⟩

theorem outside2 (b most : Int) (w : World) :
  Calls Tryz.prog 48 #[.int .i64 2, .int .u64 b, .int .u64 most] w fun e w' => e = .returned (.agg #[.int .u64 b, .int .u64 most, .bool false]) ∧ Below w.heap.size w w' := by
 go_enter Tryz.func48, Tryz.ntmps48
 go_wp2_with fail
 exact bodyPost_ret (v := .agg #[.int .u64 b, .int .u64 most, .bool false]) (by simp [results, Tryz.results48, go_sem]) rfl ⟨rfl, (Below.refl _ _).alloc (Nat.le_refl _) _⟩
theorem outside3 (b most : Int) (w : World) (b0 : 0 ≤ b) (b1 : b ≤ 4294967295) :
  Calls Tryz.prog 48 #[.int .i64 3, .int .u64 b, .int .u64 most] w fun e w' => e = .returned (.agg #[.int .u64 (b + 1), .int .u64 most, .bool (b == most)]) ∧ Below w.heap.size w w' := by
 go_enter Tryz.func48, Tryz.ntmps48
 go_wp2_with fail
 exact bodyPost_ret (v := .agg #[.int .u64 (b + 1), .int .u64 most, .bool (b == most)]) (by simp [results, Tryz.results48, go_sem]) rfl ⟨rfl, (Below.refl _ _).alloc (Nat.le_refl _) _⟩
theorem outside4 (b most : Int) (w : World) :
  Calls Tryz.prog 48 #[.int .i64 4, .int .u64 b, .int .u64 most] w fun e w' => e = .returned (.agg #[.int .u64 0, .int .u64 b, .bool false]) ∧ Below w.heap.size w w' := by
 go_enter Tryz.func48, Tryz.ntmps48
 go_wp2_with fail
 exact bodyPost_ret (v := .agg #[.int .u64 0, .int .u64 b, .bool false]) (by simp [results, Tryz.results48, go_sem]) rfl ⟨rfl, (Below.refl _ _).alloc (Nat.le_refl _) _⟩
theorem outside5 (b most : Int) (w : World) :
  Calls Tryz.prog 48 #[.int .i64 5, .int .u64 b, .int .u64 most] w fun e w' => e = .returned (.agg #[.int .u64 0, .int .u64 (IntKind.u64.wrap (b - 1)), .bool (b == 0)]) ∧ Below w.heap.size w w' := by
 go_enter Tryz.func48, Tryz.ntmps48
 go_wp2_with fail
 exact bodyPost_ret (v := .agg #[.int .u64 0, .int .u64 (IntKind.u64.wrap (b - 1)), .bool (b == 0)]) (by simp [results, Tryz.results48, go_sem]) rfl ⟨rfl, (Below.refl _ _).alloc (Nat.le_refl _) _⟩

def cmpI (p a b : Int) : Bool :=
 if p = 0 then a == b else if p = 1 then a != b else if p = 2 ∨ p = 6 then decide (a < b) else if p = 3 ∨ p = 7 then decide (a ≤ b) else if p = 4 ∨ p = 8 then decide (b < a) else decide (b ≤ a)
def sgn (n x : Int) : Int := if 2 ^ (n.toNat - 1) ≤ x then x - 2 ^ n.toNat else x
def cmpV (p n a b : Int) : Bool := if 6 ≤ p then cmpI p (sgn n a) (sgn n b) else cmpI p a b
end Go.Proofs.YtbbbflnnbbaamaaGreatDoor
namespace Go.Proofs.YtbbbflnnbbaamaaGreatDoor
open Go.RowKit

def goesB (p n s t b k : Int) : Bool := cmpV p n (afterV n s t k) b
def TripsSpec (p n s t b r : Int) (ok : Bool) : Prop :=
 (ok = true ∧ 0 ≤ r ∧ r < 2 ^ n.toNat ∧ goesB p n s t b r = false ∧ ∀ k, 0 ≤ k → goesB p n s t b k = false → r ≤ k) ∨
 (ok = false ∧ r = 0 ∧ ∀ k, 0 ≤ k → goesB p n s t b k = true)

theorem trips_of_until {p n s t b s' lo hi r : Int} {em ok : Bool} (hs : UntilSpec (2 ^ n.toNat) s' t lo hi em r ok)
  (h : ∀ k, 0 ≤ k → (goesB p n s t b k = false ↔ em = false ∧ lo ≤ (s' + k * t) % 2 ^ n.toNat ∧ (s' + k * t) % 2 ^ n.toNat ≤ hi)) : TripsSpec p n s t b r ok := by
 rcases hs with ⟨rfl, he, h1, h2, h3⟩ | ⟨rfl, rfl, h3⟩
 ·exact .inl ⟨rfl, h1.1, h2, (h r h1.1).2 ⟨he, h1.2⟩, fun k k0 hk => h3 k ⟨k0, ((h k k0).1 hk).2⟩⟩
 ·refine .inr ⟨rfl, rfl, fun k k0 => ?_⟩
  rw [← Bool.not_eq_false]
  intro c
  obtain ⟨c1, c2⟩ := (h k k0).1 c
  rcases h3 with h3 | h3
  ·rw [c1] at h3; cases h3
  ·exact h3 k ⟨k0, c2⟩

theorem pow_half (n : Int) (h1 : 1 ≤ n) : (2 : Int) ^ n.toNat = 2 * 2 ^ (n.toNat - 1) := by
 rw [show n.toNat = (n.toNat - 1) + 1 by omega, Int.pow_succ]; simp [Int.mul_comm]
theorem sgn_shift (n x : Int) (h1 : 1 ≤ n) (x0 : 0 ≤ x) (x1 : x < 2 ^ n.toNat) : (x + 2 ^ (n.toNat - 1)) % 2 ^ n.toNat = sgn n x + 2 ^ (n.toNat - 1) := by
 have e := pow_half n h1
 have p0 : (1 : Int) ≤ 2 ^ (n.toNat - 1) := by
  have : 0 < 2 ^ (n.toNat - 1) := Nat.pow_pos (by decide)
  rw [← pow_nat]; omega
 unfold sgn
 generalize (2 : Int) ^ (n.toNat - 1) = H at *
 rw [e] at x1 ⊢
 split
 ·rw [show x + H = x - 2 * H + H + 2 * H by omega, Int.add_emod_right]
  exact Int.emod_eq_of_lt (by omega) (by omega)
 ·exact Int.emod_eq_of_lt (by omega) (by omega)

theorem cmp_shift (p a b h : Int) (hp : 6 ≤ p) (hp9 : p ≤ 9) : cmpI p a b = cmpI (p - 4) (a + h) (b + h) := by
 have : p = 6 ∨ p = 7 ∨ p = 8 ∨ p = 9 := by omega
 rcases this with rfl | rfl | rfl | rfl <;> simp [cmpI]

def offP (p n : Int) : Int := if 6 ≤ p then 2 ^ (n.toNat - 1) else 0
def predP (p : Int) : Int := if 6 ≤ p then p - 4 else p

theorem goes_word (p n s t b k : Int) (_hp : 2 ≤ p) (hp9 : p ≤ 9) (h1 : 1 ≤ n) (b0 : 0 ≤ b) (b1 : b < 2 ^ n.toNat) :
  goesB p n s t b k = cmpI (predP p) (((s + offP p n) % 2 ^ n.toNat + k * t) % 2 ^ n.toNat) ((b + offP p n) % 2 ^ n.toNat) := by
 have pp : (2 : Int) ^ n.toNat ≠ 0 := by omega
 unfold goesB cmpV offP predP
 by_cases h6 : 6 ≤ p
 ·rw [if_pos h6, if_pos h6, if_pos h6, cmp_shift p _ _ (2 ^ (n.toNat - 1)) h6 hp9]
  have a0 : 0 ≤ afterV n s t k := Int.emod_nonneg _ pp
  have a1 : afterV n s t k < 2 ^ n.toNat := Int.emod_lt_of_pos _ (by omega)
  rw [← sgn_shift n b h1 b0 b1, ← sgn_shift n _ h1 a0 a1]
  congr 1
  unfold afterV
  refine ((Cg.mod (Int.dvd_refl _)).add Cg.rfl).tr ((Cg.of ?_).tr ((Cg.mod (Int.dvd_refl _)).sym.add Cg.rfl))
  omega
 ·rw [if_neg h6, if_neg h6, if_neg h6, Int.add_zero, Int.add_zero, Int.emod_eq_of_lt b0 b1]
  congr 1
  exact (Cg.mod (Int.dvd_refl _)).sym.add Cg.rfl

theorem trips_ord {p n s t b lo hi r : Int} {em ok : Bool} (hp : 2 ≤ p) (hp9 : p ≤ 9) (h1 : 1 ≤ n) (b0 : 0 ≤ b) (b1 : b < 2 ^ n.toNat)
  (ho : (predP p = 2 ∧ lo = (b + offP p n) % 2 ^ n.toNat ∧ hi = 2 ^ n.toNat - 1 ∧ em = false) ∨
   (predP p = 3 ∧ lo = (b + offP p n) % 2 ^ n.toNat + 1 ∧ hi = 2 ^ n.toNat - 1 ∧ em = ((b + offP p n) % 2 ^ n.toNat == 2 ^ n.toNat - 1)) ∨
   (predP p = 4 ∧ lo = 0 ∧ hi = (b + offP p n) % 2 ^ n.toNat ∧ em = false) ∨
   (predP p = 5 ∧ lo = 0 ∧ hi = IntKind.u64.wrap ((b + offP p n) % 2 ^ n.toNat - 1) ∧ em = ((b + offP p n) % 2 ^ n.toNat == 0)))
  (hb : (2 : Int) ^ n.toNat ≤ 4294967296)
  (hs : UntilSpec (2 ^ n.toNat) ((s + offP p n) % 2 ^ n.toNat) t lo hi em r ok) : TripsSpec p n s t b r ok := by
 refine trips_of_until hs fun k _ => ?_
 rw [goes_word p n s t b k hp hp9 h1 b0 b1]
 have u0 := Int.emod_nonneg ((s + offP p n) % 2 ^ n.toNat + k * t) (show (2 : Int) ^ n.toNat ≠ 0 by omega)
 have u1 := Int.emod_lt_of_pos ((s + offP p n) % 2 ^ n.toNat + k * t) (show 0 < (2 : Int) ^ n.toNat by omega)
 have v0 := Int.emod_nonneg (b + offP p n) (show (2 : Int) ^ n.toNat ≠ 0 by omega)
 have v1 := Int.emod_lt_of_pos (b + offP p n) (show 0 < (2 : Int) ^ n.toNat by omega)
 generalize ((s + offP p n) % 2 ^ n.toNat + k * t) % 2 ^ n.toNat = u at *
 generalize (b + offP p n) % 2 ^ n.toNat = v at *
 generalize (2 : Int) ^ n.toNat = M at *
 rcases ho with ⟨e, rfl, rfl, rfl⟩ | ⟨e, rfl, rfl, rfl⟩ | ⟨e, rfl, rfl, rfl⟩ | ⟨e, rfl, rfl, rfl⟩ <;> rw [e]
 ·simp [cmpI]; omega
 ·simp [cmpI]; omega
 ·simp [cmpI]; omega
 ·simp only [IntKind.wrap_u64]; simp [cmpI]; omega
theorem until_pre_ord {p n s t b lo hi : Int} {em : Bool} (t0 : 0 ≤ t) (t1 : t < 2 ^ n.toNat)
  (ho : (predP p = 2 ∧ lo = (b + offP p n) % 2 ^ n.toNat ∧ hi = 2 ^ n.toNat - 1 ∧ em = false) ∨
   (predP p = 3 ∧ lo = (b + offP p n) % 2 ^ n.toNat + 1 ∧ hi = 2 ^ n.toNat - 1 ∧ em = ((b + offP p n) % 2 ^ n.toNat == 2 ^ n.toNat - 1)) ∨
   (predP p = 4 ∧ lo = 0 ∧ hi = (b + offP p n) % 2 ^ n.toNat ∧ em = false) ∨
   (predP p = 5 ∧ lo = 0 ∧ hi = IntKind.u64.wrap ((b + offP p n) % 2 ^ n.toNat - 1) ∧ em = ((b + offP p n) % 2 ^ n.toNat == 0)))
  (hb : (2 : Int) ^ n.toNat ≤ 4294967296) : UntilPre (2 ^ n.toNat) ((s + offP p n) % 2 ^ n.toNat) t lo hi em := by
 have u0 := Int.emod_nonneg (s + offP p n) (show (2 : Int) ^ n.toNat ≠ 0 by omega)
 have u1 := Int.emod_lt_of_pos (s + offP p n) (show 0 < (2 : Int) ^ n.toNat by omega)
 have v0 := Int.emod_nonneg (b + offP p n) (show (2 : Int) ^ n.toNat ≠ 0 by omega)
 have v1 := Int.emod_lt_of_pos (b + offP p n) (show 0 < (2 : Int) ^ n.toNat by omega)
 generalize (s + offP p n) % 2 ^ n.toNat = u at *
 generalize (b + offP p n) % 2 ^ n.toNat = v at *
 generalize (2 : Int) ^ n.toNat = M at *
 refine ⟨u0, u1, t0, t1, hb, ?_⟩
 rcases ho with ⟨e, rfl, rfl, rfl⟩ | ⟨e, rfl, rfl, rfl⟩ | ⟨e, rfl, rfl, rfl⟩ | ⟨e, rfl, rfl, rfl⟩
 ·intro _; omega
 ·intro g; have : v ≠ M - 1 := by simpa using g
  omega
 ·intro _; omega
 ·intro g; have : v ≠ 0 := by simpa using g
  simp only [IntKind.wrap_u64]; omega
theorem trips_ne {n s t b r : Int} {ok : Bool}
  (hs : UntilSpec (2 ^ n.toNat) s t b b false r ok) : TripsSpec 1 n s t b r ok := by
 refine trips_of_until hs fun k _ => ?_
 unfold goesB cmpV afterV
 simp [cmpI]
 omega
theorem trips_eq {n s t b : Int} (h1 : 1 ≤ n) (s0 : 0 ≤ s) (s1 : s < 2 ^ n.toNat) (t0 : 0 ≤ t) (t1 : t < 2 ^ n.toNat) (he : s = b) :
  TripsSpec 0 n s t b (min t 1) (t != 0) := by
 subst he
 have e := pow_half n h1
 have p0 : (1 : Int) ≤ 2 ^ (n.toNat - 1) := by
  have : 0 < 2 ^ (n.toNat - 1) := Nat.pow_pos (by decide)
  rw [← pow_nat]; omega
 have g : ∀ k, goesB 0 n s t s k = ((s + k * t) % 2 ^ n.toNat == s) := fun k => by
  unfold goesB cmpV afterV; rw [if_neg (by decide)]; simp [cmpI]
 have g0 : goesB 0 n s t s 0 = true := by rw [g]; simp; exact Int.emod_eq_of_lt s0 s1
 by_cases ht : t = 0
 ·subst ht
  refine .inr ⟨rfl, rfl, fun k _ => ?_⟩
  rw [g]; simp; exact Int.emod_eq_of_lt s0 s1
 ·refine .inl ⟨by simpa using ht, by omega, by omega, ?_, fun k k0 hk => ?_⟩
  ·rw [show min t 1 = 1 by omega, g, Int.one_mul]
   have : (s + t) % 2 ^ n.toNat = if s + t < 2 ^ n.toNat then s + t else s + t - 2 ^ n.toNat := by
    split
    ·exact Int.emod_eq_of_lt (by omega) (by omega)
    ·rw [← Int.emod_eq_of_lt (show 0 ≤ s + t - 2 ^ n.toNat by omega) (show s + t - 2 ^ n.toNat < 2 ^ n.toNat by omega), Int.sub_emod_right]
   rw [this]
   split <;> simp <;> omega
  ·have : k ≠ 0 := by rintro rfl; rw [g0] at hk; cases hk
   omega
theorem trips_eq0 {n s t b : Int} (s0 : 0 ≤ s) (s1 : s < 2 ^ n.toNat) (he : s ≠ b) : TripsSpec 0 n s t b 0 true := by
 refine .inl ⟨rfl, by omega, by omega, ?_, fun k k0 _ => k0⟩
 unfold goesB cmpV afterV; rw [if_neg (by decide)]; simp [cmpI]
 rw [Int.emod_eq_of_lt s0 s1]; exact he
theorem trips_unique {p n s t b r k : Int} {c d : Bool} (h : TripsSpec p n s t b r c) (g : TripsSpec p n s t b k d) : r = k ∧ c = d := by
 rcases h with ⟨rfl, h0, h1, h2, h3⟩ | ⟨rfl, rfl, h3⟩ <;> rcases g with ⟨rfl, g0, g1, g2, g3⟩ | ⟨rfl, rfl, g3⟩
 ·exact ⟨Int.le_antisymm (h3 _ g0 g2) (g3 _ h0 h2), rfl⟩
 ·rw [g3 _ h0] at h2; cases h2
 ·rw [h3 _ g0] at g2; cases g2
 ·exact ⟨rfl, rfl⟩
end Go.Proofs.YtbbbflnnbbaamaaGreatDoor
