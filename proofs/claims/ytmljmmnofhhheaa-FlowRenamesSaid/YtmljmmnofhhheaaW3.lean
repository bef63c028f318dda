/- Walks of slices.ContainsFunc at the closures, of Index and Contains, of Validate. -/
import Derived.Test.YtmljmmnofhhheaaW2
namespace Go.Proofs.Ytmljmmnofhhheaa
open Go.RowKit

theorem any_take {α : Type} (xs : List α) (p : α → Bool) (d : α) (k : Nat) (hk : k < xs.length) : (xs.take (k + 1)).any p = ((xs.take k).any p || p (xs.getD k d)) := by
  rw [List.take_succ_eq_append_getElem hk, List.any_append]
  simp [List.getD_eq_getElem?_getD, List.getElem?_eq_getElem hk]
theorem any_of_take {α : Type} (xs : List α) (p : α → Bool) (k : Nat) (h : (xs.take k).any p = true) : xs.any p = true := by
  rw [List.any_eq_true] at *
  obtain ⟨x, hx, hp⟩ := h
  exact ⟨x, List.mem_of_mem_take hx, hp⟩
/-- No element so far. -/
def NoneYet {α : Type} (xs : List α) (p : α → Bool) (k : Nat) : Prop := (xs.take k).any p = false
theorem NoneYet.zero {α : Type} {xs : List α} {p : α → Bool} : NoneYet xs p 0 := by simp [NoneYet]
theorem NoneYet.next {α : Type} {xs : List α} {p : α → Bool} {k : Nat} {d : α} (h : NoneYet xs p k) (hk : k < xs.length) (hp : p (xs.getD k d) = false) : NoneYet xs p (k + 1) := by
  unfold NoneYet at *; rw [any_take xs p d k hk, h, hp]; rfl
theorem NoneYet.fin {α : Type} {xs : List α} {p : α → Bool} (h : NoneYet xs p xs.length) : xs.any p = false := by
  unfold NoneYet at h; rwa [List.take_length] at h
theorem any_here {α : Type} {xs : List α} {p : α → Bool} {k : Nat} {d : α} (hk : k < xs.length) (hp : p (xs.getD k d) = true) : xs.any p = true :=
  any_of_take xs p (k + 1) (by rw [any_take xs p d k hk, hp, Bool.or_true])
def AnyPost {α : Type} (xs : List α) (p : α → Bool) (w : World) (e : Ending) (w' : World) : Prop := ∃ r : Int, e = .returned (.int .i64 r) ∧ decide (0 ≤ r) = xs.any p ∧ Below w.heap.size w w'

set_option maxHeartbeats 1000000 in
theorem idx_len2 (xs : List (List Int)) (a : Option Addr) (cap : Nat) (p : List Int → Bool) (w : World) (hin : RowsIn w a xs) (hl : xs.length ≤ 1000)
    (hp : ∀ k, k < xs.length → ∀ a' cap' w', Below w.heap.size w w' → Calls Try.prog 60 #[.slice a' (xs.getD k []).length cap'] w' (fun e w'' => e = .returned (.bool (p (xs.getD k []))) ∧ Below w'.heap.size w' w'')) :
    Calls Try.prog 75 #[.slice a xs.length cap, .func (.func 60) #[] #[]] w (AnyPost xs p w) := by
  have HP := Lib.hid hp; have HI := Lib.hid hin; clear hp hin
  go_enter Try.func75, Try.ntmps75
  go_wp2_with fail
  go_loopw [8] (fun i wr => ∃ k : Nat, k ≤ xs.length ∧ i = .int .i64 k ∧ NoneYet xs p k ∧ Below w.heap.size w wr) (fun i _ => xs.length - (intOf i).toNat)
  case atStart => exact ⟨0, Nat.zero_le _, rfl, NoneYet.zero, Below.refl _ _⟩
  case round =>
    obtain ⟨k, hk, rfl, hny, hb⟩ := hrel
    by_cases hlt : k < xs.length
    · have HB := Lib.hid hb; have HN := Lib.hid hny; clear hny
      obtain ⟨b, off, a', cap', rfl, hc, _⟩ := HI.out.below hb k hlt
      have HC := Lib.hid (HP.out k hlt a' cap' wr hb)
      clear hb
      generalize hx : xs.getD k [] = x at *
      have HX := Lib.hid hx; clear hx
      cases hpx : p x
      · rw [hpx] at HC
        have HPX := Lib.hid hpx; clear hpx
        go_wp2_with (first | (go_at_call 60; refine HC.out.mono ?_; rintro e w2 ⟨rfl, hb2⟩))
        go_roundw
        case rel => exact ⟨k + 1, by omega, by go_num, HN.out.next (d := []) hlt (by rw [HX.out]; exact HPX.out), HB.out.trans (hb2.mono HB.out.size)⟩
        case measure => simp [intOf]; omega
      · rw [hpx] at HC
        have HPX := Lib.hid hpx; clear hpx
        go_wp2_with (first | (go_at_call 60; refine HC.out.mono ?_; rintro e w2 ⟨rfl, hb2⟩))
        go_ret
        exact ⟨k, rfl, by rw [any_here (d := []) hlt (by rw [HX.out]; exact HPX.out)]; simp, HB.out.trans (hb2.mono HB.out.size)⟩
    · obtain rfl : k = xs.length := by omega
      go_wp2_with fail
      go_ret
      exact ⟨-1, rfl, by rw [hny.fin]; rfl, hb⟩
theorem con_len2 (xs : List (List Int)) (a : Option Addr) (cap : Nat) (p : List Int → Bool) (w : World) (hin : RowsIn w a xs) (hl : xs.length ≤ 1000)
    (hp : ∀ k, k < xs.length → ∀ a' cap' w', Below w.heap.size w w' → Calls Try.prog 60 #[.slice a' (xs.getD k []).length cap'] w' (fun e w'' => e = .returned (.bool (p (xs.getD k []))) ∧ Below w'.heap.size w' w'')) :
    Calls Try.prog 59 #[.slice a xs.length cap, .func (.func 60) #[] #[]] w fun e w' => e = .returned (.bool (xs.any p)) ∧ Below w.heap.size w w' := by
  have HC := Lib.hid (idx_len2 xs a cap p w hin hl hp)
  clear hin hp
  go_enter Try.func59, Try.ntmps59
  go_wp2_with (first | (go_at_call 75; refine HC.out.mono ?_; rintro e w2 ⟨r, rfl, hr, hb2⟩))
  go_wp2_with fail
  go_ret
  exact ⟨rfl, hb2⟩

set_option maxHeartbeats 1000000 in
theorem idx_range (pg : Addr) (xs : List Int) (a : Option Addr) (cap : Nat) (p : Int → Bool) (w : World) (hin : IntsIn w a xs) (hl : xs.length ≤ 1000)
    (hp : ∀ k, k < xs.length → ∀ w', Below w.heap.size w w' → Calls Try.prog 62 #[.int .i64 (xs.getD k 0), .pointer (some pg)] w' (fun e w'' => e = .returned (.bool (p (xs.getD k 0))) ∧ Below w'.heap.size w' w'')) :
    Calls Try.prog 76 #[.slice a xs.length cap, .func (.func 62) #[] #[.pointer (some pg)]] w (AnyPost xs p w) := by
  have HP := Lib.hid hp; have HI := Lib.hid hin; clear hp hin
  go_enter Try.func76, Try.ntmps76
  go_wp2_with fail
  go_loopw [8] (fun i wr => ∃ k : Nat, k ≤ xs.length ∧ i = .int .i64 k ∧ NoneYet xs p k ∧ Below w.heap.size w wr) (fun i _ => xs.length - (intOf i).toNat)
  case atStart => exact ⟨0, Nat.zero_le _, rfl, NoneYet.zero, Below.refl _ _⟩
  case round =>
    obtain ⟨k, hk, rfl, hny, hb⟩ := hrel
    by_cases hlt : k < xs.length
    · have HB := Lib.hid hb; have HN := Lib.hid hny; clear hny
      obtain ⟨b, off, rfl, hc⟩ := HI.out.below hb k hlt
      have HC := Lib.hid (HP.out k hlt wr hb)
      clear hb
      generalize hx : xs.getD k 0 = x at *
      have HX := Lib.hid hx; clear hx
      cases hpx : p x
      · rw [hpx] at HC
        have HPX := Lib.hid hpx; clear hpx
        go_wp2_with (first | (go_at_call 62; refine HC.out.mono ?_; rintro e w2 ⟨rfl, hb2⟩))
        go_roundw
        case rel => exact ⟨k + 1, by omega, by go_num, HN.out.next (d := 0) hlt (by rw [HX.out]; exact HPX.out), HB.out.trans (hb2.mono HB.out.size)⟩
        case measure => simp [intOf]; omega
      · rw [hpx] at HC
        have HPX := Lib.hid hpx; clear hpx
        go_wp2_with (first | (go_at_call 62; refine HC.out.mono ?_; rintro e w2 ⟨rfl, hb2⟩))
        go_ret
        exact ⟨k, rfl, by rw [any_here (d := 0) hlt (by rw [HX.out]; exact HPX.out)]; simp, HB.out.trans (hb2.mono HB.out.size)⟩
    · obtain rfl : k = xs.length := by omega
      go_wp2_with fail
      go_ret
      exact ⟨-1, rfl, by rw [hny.fin]; rfl, hb⟩
theorem con_range (pg : Addr) (xs : List Int) (a : Option Addr) (cap : Nat) (p : Int → Bool) (w : World) (hin : IntsIn w a xs) (hl : xs.length ≤ 1000)
    (hp : ∀ k, k < xs.length → ∀ w', Below w.heap.size w w' → Calls Try.prog 62 #[.int .i64 (xs.getD k 0), .pointer (some pg)] w' (fun e w'' => e = .returned (.bool (p (xs.getD k 0))) ∧ Below w'.heap.size w' w'')) :
    Calls Try.prog 61 #[.slice a xs.length cap, .func (.func 62) #[] #[.pointer (some pg)]] w fun e w' => e = .returned (.bool (xs.any p)) ∧ Below w.heap.size w w' := by
  have HC := Lib.hid (idx_range pg xs a cap p w hin hl hp)
  clear hin hp
  go_enter Try.func61, Try.ntmps61
  go_wp2_with (first | (go_at_call 76; refine HC.out.mono ?_; rintro e w2 ⟨r, rfl, hr, hb2⟩))
  go_wp2_with fail
  go_ret
  exact ⟨rfl, hb2⟩

set_option maxHeartbeats 1000000 in
theorem idx_noded (pg : Addr) (xs : List Int) (a : Option Addr) (cap : Nat) (p : Int → Bool) (w : World) (hin : IntsIn w a xs) (hl : xs.length ≤ 1000)
    (hp : ∀ k, k < xs.length → ∀ w', Below w.heap.size w w' → Calls Try.prog 74 #[.int .i64 (xs.getD k 0), .pointer (some pg)] w' (fun e w'' => e = .returned (.bool (p (xs.getD k 0))) ∧ Below w'.heap.size w' w'')) :
    Calls Try.prog 76 #[.slice a xs.length cap, .func (.func 74) #[] #[.pointer (some pg)]] w (AnyPost xs p w) := by
  have HP := Lib.hid hp; have HI := Lib.hid hin; clear hp hin
  go_enter Try.func76, Try.ntmps76
  go_wp2_with fail
  go_loopw [8] (fun i wr => ∃ k : Nat, k ≤ xs.length ∧ i = .int .i64 k ∧ NoneYet xs p k ∧ Below w.heap.size w wr) (fun i _ => xs.length - (intOf i).toNat)
  case atStart => exact ⟨0, Nat.zero_le _, rfl, NoneYet.zero, Below.refl _ _⟩
  case round =>
    obtain ⟨k, hk, rfl, hny, hb⟩ := hrel
    by_cases hlt : k < xs.length
    · have HB := Lib.hid hb; have HN := Lib.hid hny; clear hny
      obtain ⟨b, off, rfl, hc⟩ := HI.out.below hb k hlt
      have HC := Lib.hid (HP.out k hlt wr hb)
      clear hb
      generalize hx : xs.getD k 0 = x at *
      have HX := Lib.hid hx; clear hx
      cases hpx : p x
      · rw [hpx] at HC
        have HPX := Lib.hid hpx; clear hpx
        go_wp2_with (first | (go_at_call 74; refine HC.out.mono ?_; rintro e w2 ⟨rfl, hb2⟩))
        go_roundw
        case rel => exact ⟨k + 1, by omega, by go_num, HN.out.next (d := 0) hlt (by rw [HX.out]; exact HPX.out), HB.out.trans (hb2.mono HB.out.size)⟩
        case measure => simp [intOf]; omega
      · rw [hpx] at HC
        have HPX := Lib.hid hpx; clear hpx
        go_wp2_with (first | (go_at_call 74; refine HC.out.mono ?_; rintro e w2 ⟨rfl, hb2⟩))
        go_ret
        exact ⟨k, rfl, by rw [any_here (d := 0) hlt (by rw [HX.out]; exact HPX.out)]; simp, HB.out.trans (hb2.mono HB.out.size)⟩
    · obtain rfl : k = xs.length := by omega
      go_wp2_with fail
      go_ret
      exact ⟨-1, rfl, by rw [hny.fin]; rfl, hb⟩
theorem con_noded (pg : Addr) (xs : List Int) (a : Option Addr) (cap : Nat) (p : Int → Bool) (w : World) (hin : IntsIn w a xs) (hl : xs.length ≤ 1000)
    (hp : ∀ k, k < xs.length → ∀ w', Below w.heap.size w w' → Calls Try.prog 74 #[.int .i64 (xs.getD k 0), .pointer (some pg)] w' (fun e w'' => e = .returned (.bool (p (xs.getD k 0))) ∧ Below w'.heap.size w' w'')) :
    Calls Try.prog 61 #[.slice a xs.length cap, .func (.func 74) #[] #[.pointer (some pg)]] w fun e w' => e = .returned (.bool (xs.any p)) ∧ Below w.heap.size w w' := by
  have HC := Lib.hid (idx_noded pg xs a cap p w hin hl hp)
  clear hin hp
  go_enter Try.func61, Try.ntmps61
  go_wp2_with (first | (go_at_call 76; refine HC.out.mono ?_; rintro e w2 ⟨r, rfl, hr, hb2⟩))
  go_wp2_with fail
  go_ret
  exact ⟨rfl, hb2⟩

set_option maxHeartbeats 1000000 in
theorem idx_reached (pq : Addr) (xs : List Int) (a : Option Addr) (cap : Nat) (p : Int → Bool) (w : World) (hin : IntsIn w a xs) (hl : xs.length ≤ 1000)
    (hp : ∀ k, k < xs.length → ∀ w', Below w.heap.size w w' → Calls Try.prog 78 #[.int .i64 (xs.getD k 0), .pointer (some pq)] w' (fun e w'' => e = .returned (.bool (p (xs.getD k 0))) ∧ Below w'.heap.size w' w'')) :
    Calls Try.prog 76 #[.slice a xs.length cap, .func (.func 78) #[] #[.pointer (some pq)]] w (AnyPost xs p w) := by
  have HP := Lib.hid hp; have HI := Lib.hid hin; clear hp hin
  go_enter Try.func76, Try.ntmps76
  go_wp2_with fail
  go_loopw [8] (fun i wr => ∃ k : Nat, k ≤ xs.length ∧ i = .int .i64 k ∧ NoneYet xs p k ∧ Below w.heap.size w wr) (fun i _ => xs.length - (intOf i).toNat)
  case atStart => exact ⟨0, Nat.zero_le _, rfl, NoneYet.zero, Below.refl _ _⟩
  case round =>
    obtain ⟨k, hk, rfl, hny, hb⟩ := hrel
    by_cases hlt : k < xs.length
    · have HB := Lib.hid hb; have HN := Lib.hid hny; clear hny
      obtain ⟨b, off, rfl, hc⟩ := HI.out.below hb k hlt
      have HC := Lib.hid (HP.out k hlt wr hb)
      clear hb
      generalize hx : xs.getD k 0 = x at *
      have HX := Lib.hid hx; clear hx
      cases hpx : p x
      · rw [hpx] at HC
        have HPX := Lib.hid hpx; clear hpx
        go_wp2_with (first | (go_at_call 78; refine HC.out.mono ?_; rintro e w2 ⟨rfl, hb2⟩))
        go_roundw
        case rel => exact ⟨k + 1, by omega, by go_num, HN.out.next (d := 0) hlt (by rw [HX.out]; exact HPX.out), HB.out.trans (hb2.mono HB.out.size)⟩
        case measure => simp [intOf]; omega
      · rw [hpx] at HC
        have HPX := Lib.hid hpx; clear hpx
        go_wp2_with (first | (go_at_call 78; refine HC.out.mono ?_; rintro e w2 ⟨rfl, hb2⟩))
        go_ret
        exact ⟨k, rfl, by rw [any_here (d := 0) hlt (by rw [HX.out]; exact HPX.out)]; simp, HB.out.trans (hb2.mono HB.out.size)⟩
    · obtain rfl : k = xs.length := by omega
      go_wp2_with fail
      go_ret
      exact ⟨-1, rfl, by rw [hny.fin]; rfl, hb⟩
theorem con_reached (pq : Addr) (xs : List Int) (a : Option Addr) (cap : Nat) (p : Int → Bool) (w : World) (hin : IntsIn w a xs) (hl : xs.length ≤ 1000)
    (hp : ∀ k, k < xs.length → ∀ w', Below w.heap.size w w' → Calls Try.prog 78 #[.int .i64 (xs.getD k 0), .pointer (some pq)] w' (fun e w'' => e = .returned (.bool (p (xs.getD k 0))) ∧ Below w'.heap.size w' w'')) :
    Calls Try.prog 61 #[.slice a xs.length cap, .func (.func 78) #[] #[.pointer (some pq)]] w fun e w' => e = .returned (.bool (xs.any p)) ∧ Below w.heap.size w w' := by
  have HC := Lib.hid (idx_reached pq xs a cap p w hin hl hp)
  clear hin hp
  go_enter Try.func61, Try.ntmps61
  go_wp2_with (first | (go_at_call 76; refine HC.out.mono ?_; rintro e w2 ⟨r, rfl, hr, hb2⟩))
  go_wp2_with fail
  go_ret
  exact ⟨rfl, hb2⟩

end Go.Proofs.Ytmljmmnofhhheaa
