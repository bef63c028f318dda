/- The walk of asked: ContainsFunc and IsSorted of numbers. -/
import Derived.Test.YtmhneonebjcieaaKN
namespace Go.Proofs.Ytmhneonebjcieaa
open Go.RowKit

def okAd (a : Int) : Bool := within a 0 32768
def sortedI (xs : List Int) : Bool := decide (∀ j, j < xs.length - 1 → xs.getD j 0 ≤ xs.getD (j + 1) 0)
/-- What asked tells. -/
def askedE (l : List Pl) (v : Int) (ads : List Int) : Int := if valE l ≠ 0 then valE l else if within v 0 63 && (ads.all okAd && sortedI ads) then 0 else 1
theorem allI_at (xs : List Int) (f : Int → Bool) : xs.all f = true ↔ ∀ k, k < xs.length → f (xs.getD k 0) = true := by
  rw [List.all_eq_true]
  constructor
  · intro h k hk
    rw [List.getD_eq_getElem?_getD, List.getElem?_eq_getElem hk]
    exact h _ (List.getElem_mem hk)
  · intro h x hx
    obtain ⟨k, hk, rfl⟩ := List.mem_iff_getElem.1 hx
    have := h k hk
    rwa [List.getD_eq_getElem?_getD, List.getElem?_eq_getElem hk] at this
theorem less_any (a b : Int) (w : World) : Calls Try.prog 66 #[.int .i64 a, .int .i64 b] w fun e w' => e = .returned (.bool (decide (a < b))) ∧ w' = w := by
  have ha : ∀ (c : Int) (w : World), Calls Try.prog 77 #[.int .i64 c] w fun e w' => e = .returned (.bool false) ∧ w = w' := fun c w => by
    have hc : (c != c) = false := by simp
    go_enter Try.func77, Try.ntmps77
    go_wp2_with fail
    go_ret
    exact ⟨rfl, rfl⟩
  have HA := Lib.hid ha; clear ha
  by_cases h1 : a < b
  · rw [decide_eq_true h1]
    go_enter Try.func66, Try.ntmps66
    go_wp2_with (go_at_call 77; refine (HA.out _ _).mono ?_; rintro e w' ⟨rfl, rfl⟩)
    go_ret
    exact ⟨rfl, rfl⟩
  · rw [decide_eq_false h1]
    go_enter Try.func66, Try.ntmps66
    go_wp2_with (go_at_call 77; refine (HA.out _ _).mono ?_; rintro e w' ⟨rfl, rfl⟩)
    go_ret
    exact ⟨ret_bool (by simp [h1]), rfl⟩
theorem asked1_any (a : Int) (w : World) : Calls Try.prog 57 #[.int .i64 a] w fun e w' => e = .returned (.bool (!okAd a)) ∧ w = w' := by
  unfold okAd
  cases h : within a 0 32768
  all_goals
    have HC := Lib.hid (within_is h w)
    clear h
    go_enter Try.func57, Try.ntmps57
    go_wp2_with fail
    refine HC.out.mono ?_; rintro e w1 ⟨rfl, rfl⟩
    go_wp2_with fail
    go_ret
    exact ⟨rfl, rfl⟩
theorem asked1_is {a : Int} {b : Bool} (h : okAd a = b) (w : World) : Calls Try.prog 57 #[.int .i64 a] w fun e w' => e = .returned (.bool (!b)) ∧ w = w' := by
  rw [← h]; exact asked1_any a w
theorem asked1_enter : ∀ args w, (callFunc 57 args).run Try.prog w = .ok (.enter 57 args) w := enters_of Try.func57 (by kernel_rfl) rfl
set_option maxHeartbeats 1000000 in
theorem idxI_any (xs : List Int) (a : Option Addr) (cap : Nat) (w : World) (hin : IntsIn w a xs) (hl : xs.length ≤ 1000) :
    Calls Try.prog 65 #[.slice a xs.length cap, .func (.func 57) #[] #[]] w fun e w' => (∃ r : Int, e = .returned (.int .i64 r) ∧ decide (0 ≤ r) = !xs.all okAd) ∧ w = w' := by
  have HI := Lib.hid hin
  have HNo : Hid (∀ k, k < xs.length → okAd (xs.getD k 0) = false → decide (0 ≤ (k : Int)) = !xs.all okAd) := Lib.hid fun k hk h => by
    have : xs.all okAd = false := by
      cases ha : xs.all okAd
      · rfl
      · rw [(allI_at _ _).1 ha k hk] at h; cases h
    rw [this]; simp
  have HYes : Hid ((∀ k, k < xs.length → okAd (xs.getD k 0) = true) → decide (0 ≤ (-1 : Int)) = !xs.all okAd) := Lib.hid fun h => by
    rw [(allI_at _ _).2 h]; rfl
  have eg := asked1_enter
  clear hin
  go_enter Try.func65, Try.ntmps65
  go_wp2_with fail
  go_loop [8] (fun i => ∃ k : Nat, k ≤ xs.length ∧ i = .int .i64 k ∧ (∀ j, j < k → okAd (xs.getD j 0) = true)) (fun i => xs.length - (intOf i).toNat)
  case atStart => exact ⟨0, Nat.zero_le _, rfl, fun j hj => absurd hj (Nat.not_lt_zero _)⟩
  case round =>
    obtain ⟨k, hk, rfl, hny⟩ := hrel
    have HN := Lib.hid hny; clear hny
    by_cases hlt : k < xs.length
    · obtain ⟨b, off, rfl, hc⟩ := HI.out k hlt
      have HNok := Lib.hid (HNo.out k hlt)
      have HNx : Hid (okAd (xs.getD k 0) = true → ∀ j, j < k + 1 → okAd (xs.getD j 0) = true) := Lib.hid fun h j hj => by
        by_cases e : j = k
        · rw [e]; exact h
        · exact HN.out j (by omega)
      generalize xs.getD k 0 = x at *
      cases hx : okAd x
      · have HC := Lib.hid (asked1_is hx w)
        have HR := Lib.hid (HNok.out hx)
        clear hx HNok HNx HNo HYes
        go_wp2_with (go_at_fn 57; refine HC.out.mono ?_; rintro e w2 ⟨rfl, rfl⟩)
        go_ret
        exact ⟨⟨_, rfl, HR.out⟩, rfl⟩
      · have HC := Lib.hid (asked1_is hx w)
        have HR := Lib.hid (HNx.out hx)
        clear hx HNok HNx
        go_wp2_with (go_at_fn 57; refine HC.out.mono ?_; rintro e w2 ⟨rfl, rfl⟩)
        go_round
        case rel => exact ⟨k + 1, by omega, by go_num, HR.out⟩
        case measure => simp [intOf]; omega
    · have HR := Lib.hid (HYes.out fun j hj => HN.out j (by omega))
      go_wp2_with fail
      go_ret
      exact ⟨⟨_, rfl, HR.out⟩, rfl⟩
theorem conI_any (xs : List Int) (a : Option Addr) (cap : Nat) (w : World) (hin : IntsIn w a xs) (hl : xs.length ≤ 1000) :
    Calls Try.prog 56 #[.slice a xs.length cap, .func (.func 57) #[] #[]] w fun e w' => e = .returned (.bool (!xs.all okAd)) ∧ w = w' := by
  have HC := Lib.hid (idxI_any xs a cap w hin hl)
  clear hin
  go_enter Try.func56, Try.ntmps56
  go_wp2_with fail
  refine HC.out.mono ?_; rintro e w2 ⟨⟨r, rfl, hr⟩, rfl⟩
  have HR := Lib.hid hr; clear hr
  go_wp2_with fail
  go_ret
  exact ⟨ret_bool HR.out, rfl⟩
set_option maxHeartbeats 1000000 in
theorem isSorted_any (xs : List Int) (a : Option Addr) (cap : Nat) (w : World) (hin : IntsIn w a xs) (hl : xs.length ≤ 1000) :
    Calls Try.prog 58 #[.slice a xs.length cap] w fun e w' => e = .returned (.bool (sortedI xs)) ∧ Below w.heap.size w w' := by
  have HI := Lib.hid hin
  have HNo : Hid (∀ j, j + 1 < xs.length → xs.getD (j + 1) 0 < xs.getD j 0 → sortedI xs = false) := Lib.hid fun j hj h => decide_eq_false fun h2 => by have := h2 j (by omega); omega
  have HYes : Hid ((∀ j, j + 1 < xs.length → xs.getD j 0 ≤ xs.getD (j + 1) 0) → sortedI xs = true) := Lib.hid fun h => decide_eq_true fun j hj => h j (by omega)
  clear hin
  generalize sortedI xs = R at *
  by_cases h0 : xs.length = 0
  · have HR := Lib.hid (HYes.out fun j hj => by omega)
    have HE := Lib.hid h0
    rw [h0]
    clear h0
    go_enter Try.func58, Try.ntmps58
    go_wp2_with fail
    go_loop [3] (fun i => i = .int .i64 (-1)) (fun i => (intOf i).toNat)
    case atStart => rfl
    case round =>
      obtain rfl := hrel
      go_wp2_with fail
      go_ret
      exact ⟨ret_bool HR.out.symm, Below.refl _ _⟩
  go_enter Try.func58, Try.ntmps58
  go_wp2_with fail
  go_loopw [3] (fun i wr => ∃ k : Nat, k < xs.length ∧ i = .int .i64 k ∧ (∀ j, k ≤ j → j + 1 < xs.length → xs.getD j 0 ≤ xs.getD (j + 1) 0) ∧ Below w.heap.size w wr) (fun i _ => (intOf i).toNat)
  case atStart => exact ⟨xs.length - 1, by omega, congrArg (Value.int .i64) (by omega), fun j h1 h2 => by omega, Below.refl _ _⟩
  case round =>
    obtain ⟨k, hk, rfl, hny, hb⟩ := hrel
    have HN := Lib.hid hny; have HB := Lib.hid hb; clear hny
    cases k with
    | zero =>
      have HR := Lib.hid (HYes.out fun j hj => HN.out j (Nat.zero_le _) hj)
      clear hb
      go_wp2_with fail
      go_ret
      exact ⟨ret_bool HR.out.symm, HB.out⟩
    | succ m =>
      obtain ⟨b, off, rfl, hc⟩ := HI.out.below hb (m + 1) hk
      obtain ⟨b', off', e, hd⟩ := HI.out.below hb m (by omega)
      simp only [Option.some.injEq, Addr.mk.injEq, and_true] at e
      obtain ⟨rfl, rfl⟩ := e
      have HNok := Lib.hid (HNo.out m hk)
      have HNx : Hid (xs.getD m 0 ≤ xs.getD (m + 1) 0 → ∀ j, m ≤ j → j + 1 < xs.length → xs.getD j 0 ≤ xs.getD (j + 1) 0) := Lib.hid fun h j hj h2 => by
        by_cases e : j = m
        · rw [e]; exact h
        · exact HN.out j (by omega) h2
      generalize xs.getD (m + 1) 0 = x at *
      generalize xs.getD m 0 = y at *
      have HLs := Lib.hid (less_any x y)
      have hmi : (m : Int) + 1 < (xs.length : Int) := by omega
      have hmj : (m : Int) < (xs.length : Int) := by omega
      have hm0 : (0 : Int) ≤ (m : Int) := by omega
      have hm1 : (0 : Int) ≤ (m : Int) + 1 := by omega
      have hw1 : IntKind.i64.wrap ((m : Int) + 1 - 1) = (m : Int) := by rw [show (m : Int) + 1 - 1 = (m : Int) by omega]; exact IntWalk.i64_in _ (by omega)
      have htn : ((m : Int) + 1).toNat = m + 1 := by omega
      clear hb
      by_cases hxy : x < y
      · have HR := Lib.hid (HNok.out hxy)
        rw [decide_eq_true hxy] at HLs
        clear hxy HNok HNx HNo HYes
        go_wp2_with fail
        go_quiet ((go_at_call 66; exact Calls.quiet_of_same (HLs.out _)))
        go_wp2_with fail
        go_ret
        exact ⟨ret_bool HR.out.symm, below_drewN HB.out _⟩
      · have HR := Lib.hid (HNx.out (by omega))
        rw [decide_eq_false hxy] at HLs
        clear hxy HNok HNx
        go_wp2_with fail
        go_quiet ((go_at_call 66; exact Calls.quiet_of_same (HLs.out _)))
        go_wp2_with fail
        go_roundw
        case rel => exact ⟨m, by omega, by go_num, HR.out, below_drewN HB.out _⟩
        case measure => simp [intOf]
end Go.Proofs.Ytmhneonebjcieaa
