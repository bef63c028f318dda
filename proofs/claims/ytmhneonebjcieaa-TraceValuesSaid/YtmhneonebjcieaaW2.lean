/- The walks of compare and before, and of cmp.Compare, cmp.Or. -/
import Derived.Test.YtmhneonebjcieaaW1
import Derived.StillTailTactics
namespace Go.Proofs.Ytmhneonebjcieaa
open Go.RowKit

theorem compare1_any (a b : Int) (w : World) : Calls Try.prog 64 #[.int .i64 a, .int .i64 b] w fun e w' => e = .returned (.int .i64 (cmp1 a b)) ∧ w' = w := by
  have ha : ∀ (c : Int) (w : World), Calls Try.prog 77 #[.int .i64 c] w fun e w' => e = .returned (.bool false) ∧ w = w' := fun c w => by
    have hc : (c != c) = false := by simp
    go_enter Try.func77, Try.ntmps77
    go_wp2_with fail
    go_ret
    exact ⟨rfl, rfl⟩
  have HA := Lib.hid ha; clear ha
  unfold cmp1
  by_cases h1 : a < b
  · rw [if_pos h1]
    go_enter Try.func64, Try.ntmps64
    go_wp2_with (go_at_call 77; refine (HA.out _ _).mono ?_; rintro e w' ⟨rfl, rfl⟩)
    go_ret
    exact ⟨rfl, rfl⟩
  · rw [if_neg h1]
    by_cases h2 : b < a
    · rw [if_pos h2]
      go_enter Try.func64, Try.ntmps64
      go_wp2_with (go_at_call 77; refine (HA.out _ _).mono ?_; rintro e w' ⟨rfl, rfl⟩)
      go_ret
      exact ⟨rfl, rfl⟩
    · rw [if_neg h2]
      go_enter Try.func64, Try.ntmps64
      go_wp2_with (go_at_call 77; refine (HA.out _ _).mono ?_; rintro e w' ⟨rfl, rfl⟩)
      go_ret
      exact ⟨rfl, rfl⟩
def firstNZ : List Int → Int
  | [] => 0
  | x :: xs => if x = 0 then firstNZ xs else x
theorem firstNZ_hit : ∀ (xs : List Int) (k : Nat), k < xs.length → (∀ j, j < k → xs.getD j 0 = 0) → xs.getD k 0 ≠ 0 → firstNZ xs = xs.getD k 0
  | x :: xs, 0, _, _, h => by
    unfold firstNZ
    exact if_neg h
  | x :: xs, k + 1, hk, h0, h => by
    have e : x = 0 := h0 0 (by omega)
    unfold firstNZ
    rw [if_pos e]
    exact firstNZ_hit xs k (by simpa using hk) (fun j hj => h0 (j + 1) (by omega)) h
theorem firstNZ_miss : ∀ (xs : List Int), (∀ j, j < xs.length → xs.getD j 0 = 0) → firstNZ xs = 0
  | [], _ => rfl
  | x :: xs, h => by
    have e : x = 0 := h 0 (by simp)
    unfold firstNZ
    rw [if_pos e]
    exact firstNZ_miss xs fun j hj => h (j + 1) (by simpa using hj)
set_option maxHeartbeats 1000000 in
theorem or_any (xs : List Int) (a : Option Addr) (cap : Nat) (w : World) (hin : IntsIn w a xs) (hl : xs.length ≤ 1000) :
    Calls Try.prog 63 #[.slice a xs.length cap] w fun e w' => e = .returned (.int .i64 (firstNZ xs)) ∧ w = w' := by
  have HI := Lib.hid hin
  have HHit : Hid (∀ k, k < xs.length → (∀ j, j < k → xs.getD j 0 = 0) → xs.getD k 0 ≠ 0 → firstNZ xs = xs.getD k 0) := Lib.hid fun k => firstNZ_hit xs k
  have HMiss : Hid ((∀ j, j < xs.length → xs.getD j 0 = 0) → firstNZ xs = 0) := Lib.hid (firstNZ_miss xs)
  clear hin
  generalize firstNZ xs = R at *
  go_enter Try.func63, Try.ntmps63
  go_wp2_with fail
  go_loop [8] (fun i => ∃ k : Nat, k ≤ xs.length ∧ i = .int .i64 k ∧ ∀ j, j < k → xs.getD j 0 = 0) (fun i => xs.length - (intOf i).toNat)
  case atStart => exact ⟨0, Nat.zero_le _, rfl, fun j hj => absurd hj (Nat.not_lt_zero _)⟩
  case round =>
    obtain ⟨k, hk, rfl, hny⟩ := hrel
    have HN := Lib.hid hny; clear hny
    by_cases hlt : k < xs.length
    · obtain ⟨b, off, rfl, hc⟩ := HI.out k hlt
      by_cases h0 : xs.getD k 0 = 0
      · have HN1 : Hid (∀ j, j < k + 1 → xs.getD j 0 = 0) := Lib.hid fun j hj => by
          by_cases e : j = k
          · rw [e]; exact h0
          · exact HN.out j (by omega)
        rw [h0] at hc
        clear h0
        go_wp2_with fail
        go_round
        case rel => exact ⟨k + 1, by omega, by go_num, HN1.out⟩
        case measure => simp [intOf]; omega
      · have hR := Lib.hid (HHit.out k hlt HN.out h0)
        have h1 : (xs.getD k 0 != 0) = true := bne_iff_ne.2 h0
        generalize hv : xs.getD k 0 = v at *
        have HV := Lib.hid hv; clear hv
        go_wp2_with fail
        go_ret
        exact ⟨ret_int (by rw [hR.out]), rfl⟩
    · have hR := HMiss.out fun j hj => HN.out j (by omega)
      subst hR
      go_wp2_with fail
      go_ret
      exact ⟨rfl, rfl⟩
theorem cmpP_first (p q : Pl) : cmpP p q = firstNZ [cmp1 p.fr q.fr, cmp1 p.to q.to, cmp1 p.va q.va, cmp1 p.ki q.ki, cmp1 p.nn q.nn] := by
  unfold cmpP orI firstNZ
  simp only [firstNZ]
  repeat' split
  all_goals first | rfl | omega
set_option maxRecDepth 100000 in
set_option maxHeartbeats 1000000 in
theorem compare_any (p q : Pl) (w : World) : Calls Try.prog 48 #[(.agg #[.int .i64 p.fr, .int .i64 p.to, .int .i64 p.va, .int .i64 p.ki, .int .i64 p.nn]), (.agg #[.int .i64 q.fr, .int .i64 q.to, .int .i64 q.va, .int .i64 q.ki, .int .i64 q.nn])] w fun e w' => e = .returned (.int .i64 (cmpP p q)) ∧ Below w.heap.size w w' := by
  rw [cmpP_first]
  have hb0 : Below w.heap.size w ((w.alloc (.cells #[.int .i64 p.fr, .int .i64 p.to, .int .i64 p.va, .int .i64 p.ki, .int .i64 p.nn] 38)).alloc (.cells #[.int .i64 q.fr, .int .i64 q.to, .int .i64 q.va, .int .i64 q.ki, .int .i64 q.nn] 38)) := ((Below.refl _ _).alloc (Nat.le_refl _) _).alloc (by simp) _
  have c0 : ((w.alloc (.cells #[.int .i64 p.fr, .int .i64 p.to, .int .i64 p.va, .int .i64 p.ki, .int .i64 p.nn] 38)).alloc (.cells #[.int .i64 q.fr, .int .i64 q.to, .int .i64 q.va, .int .i64 q.ki, .int .i64 q.nn] 38)).cell? ⟨w.heap.size, 0, none⟩ = some (.int .i64 p.fr) := by simp [go_sem]
  have c1 : ((w.alloc (.cells #[.int .i64 p.fr, .int .i64 p.to, .int .i64 p.va, .int .i64 p.ki, .int .i64 p.nn] 38)).alloc (.cells #[.int .i64 q.fr, .int .i64 q.to, .int .i64 q.va, .int .i64 q.ki, .int .i64 q.nn] 38)).cell? ⟨w.heap.size, 1, none⟩ = some (.int .i64 p.to) := by simp [go_sem]
  have c2 : ((w.alloc (.cells #[.int .i64 p.fr, .int .i64 p.to, .int .i64 p.va, .int .i64 p.ki, .int .i64 p.nn] 38)).alloc (.cells #[.int .i64 q.fr, .int .i64 q.to, .int .i64 q.va, .int .i64 q.ki, .int .i64 q.nn] 38)).cell? ⟨w.heap.size, 2, none⟩ = some (.int .i64 p.va) := by simp [go_sem]
  have c3 : ((w.alloc (.cells #[.int .i64 p.fr, .int .i64 p.to, .int .i64 p.va, .int .i64 p.ki, .int .i64 p.nn] 38)).alloc (.cells #[.int .i64 q.fr, .int .i64 q.to, .int .i64 q.va, .int .i64 q.ki, .int .i64 q.nn] 38)).cell? ⟨w.heap.size, 3, none⟩ = some (.int .i64 p.ki) := by simp [go_sem]
  have c4 : ((w.alloc (.cells #[.int .i64 p.fr, .int .i64 p.to, .int .i64 p.va, .int .i64 p.ki, .int .i64 p.nn] 38)).alloc (.cells #[.int .i64 q.fr, .int .i64 q.to, .int .i64 q.va, .int .i64 q.ki, .int .i64 q.nn] 38)).cell? ⟨w.heap.size, 4, none⟩ = some (.int .i64 p.nn) := by simp [go_sem]
  have c5 : ((w.alloc (.cells #[.int .i64 p.fr, .int .i64 p.to, .int .i64 p.va, .int .i64 p.ki, .int .i64 p.nn] 38)).alloc (.cells #[.int .i64 q.fr, .int .i64 q.to, .int .i64 q.va, .int .i64 q.ki, .int .i64 q.nn] 38)).cell? ⟨w.heap.size + 1, 0, none⟩ = some (.int .i64 q.fr) := by simp [go_sem]
  have c6 : ((w.alloc (.cells #[.int .i64 p.fr, .int .i64 p.to, .int .i64 p.va, .int .i64 p.ki, .int .i64 p.nn] 38)).alloc (.cells #[.int .i64 q.fr, .int .i64 q.to, .int .i64 q.va, .int .i64 q.ki, .int .i64 q.nn] 38)).cell? ⟨w.heap.size + 1, 1, none⟩ = some (.int .i64 q.to) := by simp [go_sem]
  have c7 : ((w.alloc (.cells #[.int .i64 p.fr, .int .i64 p.to, .int .i64 p.va, .int .i64 p.ki, .int .i64 p.nn] 38)).alloc (.cells #[.int .i64 q.fr, .int .i64 q.to, .int .i64 q.va, .int .i64 q.ki, .int .i64 q.nn] 38)).cell? ⟨w.heap.size + 1, 2, none⟩ = some (.int .i64 q.va) := by simp [go_sem]
  have c8 : ((w.alloc (.cells #[.int .i64 p.fr, .int .i64 p.to, .int .i64 p.va, .int .i64 p.ki, .int .i64 p.nn] 38)).alloc (.cells #[.int .i64 q.fr, .int .i64 q.to, .int .i64 q.va, .int .i64 q.ki, .int .i64 q.nn] 38)).cell? ⟨w.heap.size + 1, 3, none⟩ = some (.int .i64 q.ki) := by simp [go_sem]
  have c9 : ((w.alloc (.cells #[.int .i64 p.fr, .int .i64 p.to, .int .i64 p.va, .int .i64 p.ki, .int .i64 p.nn] 38)).alloc (.cells #[.int .i64 q.fr, .int .i64 q.to, .int .i64 q.va, .int .i64 q.ki, .int .i64 q.nn] 38)).cell? ⟨w.heap.size + 1, 4, none⟩ = some (.int .i64 q.nn) := by simp [go_sem]
  have HB0 := Lib.hid hb0
  clear hb0
  go_enter Try.func48, Try.ntmps48
  go_wp2_with fail
  generalize ((w.alloc (.cells #[.int .i64 p.fr, .int .i64 p.to, .int .i64 p.va, .int .i64 p.ki, .int .i64 p.nn] 38)).alloc (.cells #[.int .i64 q.fr, .int .i64 q.to, .int .i64 q.va, .int .i64 q.ki, .int .i64 q.nn] 38)) = w0 at *
  generalize hq : w.heap.size = q0 at *
  have HQ := Lib.hid hq; clear hq
  refine wp_region_still_tail 25 (by kernel_rfl) (by kernel_rfl) ?_
  simp only [List.take_succ_cons, List.take_zero, List.drop_succ_cons, List.drop_zero]
  repeat (first | still_step | still_call (compare1_any _ _ _))
  refine wpStill_nil ?_
  change wpList _ _ _ _ _ w0.drew
  go_wp2_with fail
  refine (or_any [cmp1 p.fr q.fr, cmp1 p.to q.to, cmp1 p.va q.va, cmp1 p.ki q.ki, cmp1 p.nn q.nn] (some ⟨w0.heap.size, 0, none⟩) 5 _ ?_ (by simp)).mono ?_
  · intro k hk
    refine ⟨_, _, rfl, ?_⟩
    have : k = 0 ∨ k = 1 ∨ k = 2 ∨ k = 3 ∨ k = 4 := by simp at hk; omega
    rcases this with rfl | rfl | rfl | rfl | rfl <;> simp [go_sem]
  rintro e w1 ⟨rfl, rfl⟩
  go_wp2_with fail
  go_ret
  refine ⟨rfl, ?_⟩
  rw [HQ.out]
  exact (HB0.out.drew).alloc (by have := HB0.out.size; rw [HQ.out] at this; exact this) _
end Go.Proofs.Ytmhneonebjcieaa
