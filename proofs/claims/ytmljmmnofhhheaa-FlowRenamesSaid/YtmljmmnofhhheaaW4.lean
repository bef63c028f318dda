/- Walks of Index, Contains, Validate. -/
import Derived.Test.YtmljmmnofhhheaaW3
namespace Go.Proofs.Ytmljmmnofhhheaa
open Go.RowKit

/-- The first place of a number, or -1. -/
def FirstAt (xs : List Int) (v r : Int) : Prop := (r = -1 ∧ v ∉ xs) ∨ (0 ≤ r ∧ r.toNat < xs.length ∧ xs.getD r.toNat 0 = v ∧ ∀ i, i < r.toNat → xs.getD i 0 ≠ v)
def NotYet (xs : List Int) (v : Int) (k : Nat) : Prop := ∀ j : Nat, j < k → xs.getD j 0 ≠ v
theorem NotYet.zero {xs : List Int} {v : Int} : NotYet xs v 0 := fun _ hj => absurd hj (Nat.not_lt_zero _)
theorem NotYet.next {xs : List Int} {v : Int} {k : Nat} (h : NotYet xs v k) (g : xs.getD k 0 ≠ v) : NotYet xs v (k + 1) := fun j hj => by
  rcases Nat.lt_or_ge j k with c | c
  · exact h j c
  · obtain rfl : j = k := by omega
    exact g
theorem NotYet.fin {xs : List Int} {v : Int} (h : NotYet xs v xs.length) : v ∉ xs := fun c => by
  obtain ⟨i, hi, e⟩ := List.mem_iff_getElem.1 c
  have := h i hi
  rw [List.getD_eq_getElem?_getD, List.getElem?_eq_getElem hi] at this
  exact this e
theorem FirstAt.mem {xs : List Int} {v r : Int} (h : FirstAt xs v r) : decide (0 ≤ r) = decide (v ∈ xs) := by
  rcases h with ⟨rfl, h⟩ | ⟨h0, h1, h2, _⟩
  · simp [h]
  · have : v ∈ xs := by
      rw [← h2, List.getD_eq_getElem?_getD, List.getElem?_eq_getElem h1]; simp
    simp [h0, this]
def IndexPost (xs : List Int) (v : Int) (w : World) (e : Ending) (w' : World) : Prop := ∃ r : Int, e = .returned (.int .i64 r) ∧ FirstAt xs v r ∧ w = w'
set_option maxHeartbeats 1000000 in
theorem index_any (xs : List Int) (a : Option Addr) (cap : Nat) (v : Int) (w : World) (hin : IntsIn w a xs) (hl : xs.length ≤ 1000) :
    Calls Try.prog 66 #[.slice a xs.length cap, .int .i64 v] w (IndexPost xs v w) := by
  have HI := Lib.hid hin; clear hin
  go_enter Try.func66, Try.ntmps66
  go_wp2_with fail
  go_loop [8] (fun i => ∃ k : Nat, k ≤ xs.length ∧ i = .int .i64 k ∧ NotYet xs v k) (fun i => xs.length - (intOf i).toNat)
  case atStart => exact ⟨0, Nat.zero_le _, rfl, NotYet.zero⟩
  case round =>
    obtain ⟨k, hk, rfl, hny⟩ := hrel
    by_cases hlt : k < xs.length
    · obtain ⟨b, off, rfl, hc⟩ := HI.out k hlt
      have HN := Lib.hid hny; clear hny
      generalize hx : xs.getD k 0 = x at *
      have HX := Lib.hid hx; clear hx
      by_cases hv : v = x
      · have hvx : (v == x) = true := by simpa using hv
        have HV := Lib.hid hv; clear hv
        go_wp2_with fail
        go_ret
        exact ⟨k, rfl, .inr ⟨by omega, by simpa using hlt, by rw [Int.toNat_natCast, HX.out]; exact HV.out.symm, by rw [Int.toNat_natCast]; exact HN.out⟩, rfl⟩
      · have hvx : (v == x) = false := by simpa using hv
        have HV := Lib.hid hv; clear hv
        go_wp2_with fail
        go_round
        case rel => exact ⟨k + 1, by omega, by go_num, HN.out.next (by rw [HX.out]; exact fun c => HV.out c.symm)⟩
        case measure => simp [intOf]; omega
    · obtain rfl : k = xs.length := by omega
      go_wp2_with fail
      go_ret
      exact ⟨-1, rfl, .inl ⟨rfl, hny.fin⟩, rfl⟩
theorem contains_any (xs : List Int) (a : Option Addr) (cap : Nat) (v : Int) (w : World) (hin : IntsIn w a xs) (hl : xs.length ≤ 1000) :
    Calls Try.prog 71 #[.slice a xs.length cap, .int .i64 v] w fun e w' => e = .returned (.bool (decide (v ∈ xs))) ∧ w = w' := by
  have HC := Lib.hid (index_any xs a cap v w hin hl)
  clear hin
  go_enter Try.func71, Try.ntmps71
  go_wp2_with (first | (go_at_call 66; refine HC.out.mono ?_; rintro e w2 ⟨r, rfl, hr, rfl⟩))
  have hm := Lib.hid hr.mem
  clear hr
  go_wp2_with fail
  go_ret
  exact ⟨ret_bool hm.out, rfl⟩

theorem len2_any (a : Option Addr) (n cap : Nat) (w : World) :
    Calls Try.prog 60 #[.slice a n cap] w fun e w' => e = .returned (.bool (decide (2 < n))) ∧ Below w.heap.size w w' := by
  go_enter Try.func60, Try.ntmps60
  go_wp2_with fail
  go_ret
  exact ⟨by simp; omega, Below.refl _ _⟩
/-- A number that is no node. -/
def offB (n : Nat) (x : Int) : Bool := decide (x < 0) || decide ((n : Int) ≤ x)
theorem off_any (fid : FuncId) (hfid : fid = 62 ∨ fid = 74) (x : Int) (pg : Nat) (a : Option Addr) (n cap : Nat) (w : World) (hc : w.cell? ⟨pg, 0, none⟩ = some (.slice a n cap)) :
    Calls Try.prog fid #[.int .i64 x, .pointer (some ⟨pg, 0, none⟩)] w fun e w' => e = .returned (.bool (offB n x)) ∧ Below w.heap.size w w' := by
  unfold offB
  rcases hfid with rfl | rfl
  · by_cases h : x < 0
    · go_enter Try.func62, Try.ntmps62
      go_wp2_with fail
      go_ret
      exact ⟨by simp [h], Below.refl _ _⟩
    · have h' : 0 ≤ x := by omega
      go_enter Try.func62, Try.ntmps62
      go_wp2_with fail
      go_ret
      exact ⟨by simp; omega, Below.refl _ _⟩
  · by_cases h : x < 0
    · go_enter Try.func74, Try.ntmps74
      go_wp2_with fail
      go_ret
      exact ⟨by simp [h], Below.refl _ _⟩
    · have h' : 0 ≤ x := by omega
      go_enter Try.func74, Try.ntmps74
      go_wp2_with fail
      go_ret
      exact ⟨by simp; omega, Below.refl _ _⟩
end Go.Proofs.Ytmljmmnofhhheaa
