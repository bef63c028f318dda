/- The walks of cmp.Compare, slices.Compare at two numbers, and of the function that Depends sorts by. -/
import Derived.Test.YtccpjfppkahbmaaKH
import Derived.BigQuiet
import Derived.StillTailTactics

namespace Go.Proofs.Ytccpjfppkahbmaa
open Go.RowKit PK

def cmp1 (a b : Int) : Int := if a < b then -1 else if b < a then 1 else 0
def cmp2 (p q : Int × Int) : Int := if cmp1 p.1 q.1 ≠ 0 then cmp1 p.1 q.1 else cmp1 p.2 q.2
theorem nan_any (a : Int) (w : World) : Calls Try.prog 127 #[.int .i64 a] w fun e w' => e = .returned (.bool false) ∧ w = w' := by
  go_enter Try.func127, Try.ntmps127
  go_wp2_with fail
  go_ret
  exact ⟨ret_bool (by simp), rfl⟩
theorem cmpc_any (a b : Int) (w : World) : Calls Try.prog 103 #[.int .i64 a, .int .i64 b] w fun e w' => e = .returned (.int .i64 (cmp1 a b)) ∧ w = w' := by
  have HN := Lib.hid nan_any
  generalize hr : cmp1 a b = r
  have HR := Lib.hid hr; clear hr
  have e0 : ∀ h : a < b, r = -1 := fun h => by rw [← HR.out]; exact if_pos h
  have e1 : ∀ (h : ¬ a < b) (h2 : b < a), r = 1 := fun h h2 => by rw [← HR.out]; unfold cmp1; rw [if_neg h, if_pos h2]
  have e2 : ∀ (h : ¬ a < b) (h2 : ¬ b < a), r = 0 := fun h h2 => by rw [← HR.out]; unfold cmp1; rw [if_neg h, if_neg h2]
  by_cases h : a < b
  · obtain rfl := e0 h
    clear e0 e1 e2
    go_enter Try.func103, Try.ntmps103
    go_wp2_with fail
    refine (HN.out _ _).mono ?_; rintro e v1 ⟨rfl, rfl⟩
    go_wp2_with fail
    refine (HN.out _ _).mono ?_; rintro e v1 ⟨rfl, rfl⟩
    go_wp2_with fail
    go_ret
    exact ⟨rfl, rfl⟩
  · by_cases h2 : b < a
    · obtain rfl := e1 h h2
      clear e0 e1 e2
      go_enter Try.func103, Try.ntmps103
      go_wp2_with fail
      refine (HN.out _ _).mono ?_; rintro e v1 ⟨rfl, rfl⟩
      go_wp2_with fail
      refine (HN.out _ _).mono ?_; rintro e v1 ⟨rfl, rfl⟩
      go_wp2_with fail
      go_ret
      exact ⟨rfl, rfl⟩
    · obtain rfl := e2 h h2
      clear e0 e1 e2
      go_enter Try.func103, Try.ntmps103
      go_wp2_with fail
      refine (HN.out _ _).mono ?_; rintro e v1 ⟨rfl, rfl⟩
      go_wp2_with fail
      refine (HN.out _ _).mono ?_; rintro e v1 ⟨rfl, rfl⟩
      go_wp2_with fail
      go_ret
      exact ⟨rfl, rfl⟩
theorem ints_two {w : World} {q : Nat} {a b : Int} (h0 : w.cell? ⟨q, 0, none⟩ = some (.int .i64 a)) (h1 : w.cell? ⟨q, 1, none⟩ = some (.int .i64 b)) : IntsIn w (some ⟨q, 0, none⟩) [a, b] := fun k hk => by
  refine ⟨q, 0, rfl, ?_⟩
  rw [Nat.zero_add]
  match k, hk with
  | 0, _ => exact h0
  | 1, _ => exact h1
theorem two_any (p q : Int × Int) (b1 b2 c1 c2 : Nat) (w : World) (h0 : w.cell? ⟨b1, 0, none⟩ = some (.int .i64 p.1)) (h1 : w.cell? ⟨b1, 1, none⟩ = some (.int .i64 p.2)) (h2 : w.cell? ⟨b2, 0, none⟩ = some (.int .i64 q.1)) (h3 : w.cell? ⟨b2, 1, none⟩ = some (.int .i64 q.2)) :
    Calls Try.prog 69 #[.slice (some ⟨b1, 0, none⟩) 2 c1, .slice (some ⟨b2, 0, none⟩) 2 c2] w fun e w' => e = .returned (.int .i64 (cmp2 p q)) ∧ w = w' := by
  have HC := Lib.hid cmpc_any
  obtain ⟨p1, p2⟩ := p
  obtain ⟨q1, q2⟩ := q
  simp only at h0 h1 h2 h3
  generalize hr : cmp2 (p1, p2) (q1, q2) = r
  have HR := Lib.hid hr; clear hr
  have HE1 : Hid (cmp1 p1 q1 ≠ 0 → cmp1 p1 q1 = r) := Lib.hid fun h => by rw [← HR.out]; exact (if_pos h).symm
  have HE2 : Hid (cmp1 p1 q1 = 0 → cmp1 p2 q2 = r) := Lib.hid fun h => by rw [← HR.out]; exact (if_neg (by simpa using h)).symm
  clear HR
  go_enter Try.func69, Try.ntmps69
  go_wp2_with fail
  go_loopw [11] (fun i wr => (i = .int .i64 0 ∨ (i = .int .i64 1 ∧ cmp1 p1 q1 = 0) ∨ (i = .int .i64 2 ∧ r = 0)) ∧ w = wr) (fun i _ => 2 - (intOf i).toNat)
  case atStart => exact ⟨.inl rfl, by trivial⟩
  case round =>
    obtain ⟨(rfl | ⟨rfl, h⟩ | ⟨rfl, h⟩), rfl⟩ := hrel
    · have HC1 := Lib.hid (HC.out p1 q1)
      generalize cmp1 p1 q1 = c at *
      go_wp2_with fail
      refine (HC1.out _).mono ?_; rintro e v1 ⟨rfl, rfl⟩
      by_cases h : c = 0
      · have H := Lib.hid h; clear h
        have hcb : (c == 0) = true := by rw [beq_iff_eq]; exact H.out
        go_wp2_with fail
        go_roundw
        case rel => exact ⟨.inr (.inl ⟨by go_num, H.out⟩), by trivial⟩
        case measure => simp [intOf]
      · have hcb : (c == 0) = false := by rw [beq_eq_false_iff_ne]; exact h
        go_wp2_with fail
        go_ret
        exact ⟨ret_int (HE1.out h), rfl⟩
    · have HC1 := Lib.hid (HC.out p2 q2)
      have HE := Lib.hid (HE2.out h)
      clear h HE1 HE2
      generalize cmp1 p2 q2 = c at *
      go_wp2_with fail
      refine (HC1.out _).mono ?_; rintro e v1 ⟨rfl, rfl⟩
      by_cases h : c = 0
      · have H := Lib.hid h; clear h
        have hcb : (c == 0) = true := by rw [beq_iff_eq]; exact H.out
        go_wp2_with fail
        go_roundw
        case rel => exact ⟨.inr (.inr ⟨by go_num, by rw [← HE.out]; exact H.out⟩), by trivial⟩
        case measure => simp [intOf]
      · have hcb : (c == 0) = false := by rw [beq_eq_false_iff_ne]; exact h
        go_wp2_with fail
        go_ret
        exact ⟨ret_int HE.out, rfl⟩
    · have H := Lib.hid h; clear h
      go_wp2_with fail
      go_ret
      exact ⟨ret_int H.out.symm, rfl⟩
end Go.Proofs.Ytccpjfppkahbmaa
