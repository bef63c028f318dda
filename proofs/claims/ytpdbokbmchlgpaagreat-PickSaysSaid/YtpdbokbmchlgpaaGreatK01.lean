/- Packed of several texts. -/
import Derived.Test.YtpdbokbmchlgpaaGreatK00
namespace Go.Proofs.YtpdbokbmchlgpaaGreat.PK
open Go.RowKit

theorem within_any (n : Int) (asked : Bool) (lo hi : Int) (w : World) : Calls Tryz.prog 150 #[.int .i64 n, .bool asked, .int .i64 lo, .int .i64 hi] w fun e w' => e = .returned (.bool (wi n asked lo hi)) ∧ w = w' := by
  cases asked
  · by_cases h : n = 0
    · have hb : (n == 0) = true := beq_iff_eq.2 h
      have hw : wi n false lo hi = true := by unfold wi; simp [h]
      rw [hw]
      clear h hw
      go_enter Tryz.func150, Tryz.ntmps150
      go_wp2_with fail
      go_ret
      exact ⟨ret_bool (by first | exact hb | rfl), rfl⟩
    · have hb : (n == 0) = false := beq_eq_false_iff_ne.2 h
      have hw : wi n false lo hi = false := by unfold wi; simp [h]
      rw [hw]
      clear h hw
      go_enter Tryz.func150, Tryz.ntmps150
      go_wp2_with fail
      go_ret
      exact ⟨ret_bool (by first | exact hb | rfl), rfl⟩
  · by_cases h1 : lo ≤ n
    · by_cases h2 : n < hi
      · have hw : wi n true lo hi = true := by unfold wi; simp [h1, h2]
        rw [hw]
        clear hw
        go_enter Tryz.func150, Tryz.ntmps150
        go_wp2_with fail
        go_ret
        exact ⟨ret_bool (by first | rfl | simp [h2]), rfl⟩
      · have hw : wi n true lo hi = false := by unfold wi; simp [h2]
        rw [hw]
        clear hw
        go_enter Tryz.func150, Tryz.ntmps150
        go_wp2_with fail
        go_ret
        exact ⟨ret_bool (by first | rfl | simp [h2]), rfl⟩
    · have hw : wi n true lo hi = false := by unfold wi; simp [h1]
      rw [hw]
      clear hw
      go_enter Tryz.func150, Tryz.ntmps150
      go_wp2_with fail
      go_ret
      exact ⟨ret_bool (by first | rfl | simp [h1]), rfl⟩
theorem within_is {n : Int} {asked : Bool} {lo hi : Int} {b : Bool} (h : wi n asked lo hi = b) (w : World) : Calls Tryz.prog 150 #[.int .i64 n, .bool asked, .int .i64 lo, .int .i64 hi] w fun e w' => e = .returned (.bool b) ∧ w = w' := by rw [← h]; exact within_any n asked lo hi w
/-- The fields of an operation, as a struct. -/
def fieldsV (op : Int) : Value := .agg #[.bool (fD op), .bool (fA op), .bool (fB op), .bool (fI op), .bool (fT op), .bool (fM op)]
theorem fields_of {op : Int} {d a b i t m o : Bool} (h : fD op = d ∧ fA op = a ∧ fB op = b ∧ fI op = i ∧ fT op = t ∧ fM op = m ∧ fO op = o) : Ending.returned (.tuple #[.agg #[.bool d, .bool a, .bool b, .bool i, .bool t, .bool m], .bool o]) = .returned (.tuple #[fieldsV op, .bool (fO op)]) := by
  obtain ⟨rfl, rfl, rfl, rfl, rfl, rfl, rfl⟩ := h
  rfl
set_option maxHeartbeats 2000000 in
theorem fieldsOf_any (op : Int) (w : World) : Calls Tryz.prog 149 #[.int .i64 op] w fun e w' => e = .returned (.tuple #[fieldsV op, .bool (fO op)]) ∧ Below w.heap.size w w' := by
  have hcases : (op = 0) ∨ (op = 1) ∨ (2 ≤ op ∧ op ≤ 17) ∨ (18 ≤ op ∧ op ≤ 20) ∨ (21 ≤ op ∧ op ≤ 23) ∨ (op = 24) ∨ (op = 25) ∨ (op = 26) ∨ (op = 27) ∨ (op < 0) ∨ (27 < op) := by omega
  rcases hcases with hc | hc | hc | hc | hc | hc | hc | hc | hc | hc | hc
  · subst hc
    have HF : Hid (fD (0 : Int) = true ∧ fA (0 : Int) = false ∧ fB (0 : Int) = false ∧ fI (0 : Int) = true ∧ fT (0 : Int) = false ∧ fM (0 : Int) = false ∧ fO (0 : Int) = true) := Lib.hid (by decide)
    go_enter Tryz.func149, Tryz.ntmps149
    go_wp2_with fail
    exact bodyPost_ret (v := .tuple #[.agg #[.bool true, .bool false, .bool false, .bool true, .bool false, .bool false], .bool true]) (by simp [results, Tryz.results149, go_sem]) rfl ⟨fields_of HF.out, (Below.refl _ _).alloc (Nat.le_refl _) _⟩
  · subst hc
    have HF : Hid (fD (1 : Int) = true ∧ fA (1 : Int) = true ∧ fB (1 : Int) = false ∧ fI (1 : Int) = false ∧ fT (1 : Int) = false ∧ fM (1 : Int) = false ∧ fO (1 : Int) = true) := Lib.hid (by decide)
    go_enter Tryz.func149, Tryz.ntmps149
    go_wp2_with fail
    exact bodyPost_ret (v := .tuple #[.agg #[.bool true, .bool true, .bool false, .bool false, .bool false, .bool false], .bool true]) (by simp [results, Tryz.results149, go_sem]) rfl ⟨fields_of HF.out, (Below.refl _ _).alloc (Nat.le_refl _) _⟩
  · have HF : Hid (fD op = true ∧ fA op = true ∧ fB op = true ∧ fI op = false ∧ fT op = false ∧ fM op = false ∧ fO op = true) := Lib.hid (by unfold fD fA fB fI fT fM fO; refine ⟨?_, ?_, ?_, ?_, ?_, ?_, ?_⟩ <;> first | exact decide_eq_true (by omega) | exact decide_eq_false (by omega))
    have n0 : (op == 0) = false := beq_eq_false_iff_ne.2 (by omega)
    have n1 : (op == 1) = false := beq_eq_false_iff_ne.2 (by omega)
    have n24 : (op == 24) = false := beq_eq_false_iff_ne.2 (by omega)
    have n25 : (op == 25) = false := beq_eq_false_iff_ne.2 (by omega)
    have n26 : (op == 26) = false := beq_eq_false_iff_ne.2 (by omega)
    have n27 : (op == 27) = false := beq_eq_false_iff_ne.2 (by omega)
    have g0 : 2 ≤ op := by omega
    have l0 : op ≤ 17 := by omega
    have g1 : ¬ 18 ≤ op := by omega
    have l1 : op ≤ 20 := by omega
    have g2 : ¬ 21 ≤ op := by omega
    have l2 : op ≤ 23 := by omega
    clear hc
    go_enter Tryz.func149, Tryz.ntmps149
    go_wp2_with fail
    exact bodyPost_ret (v := .tuple #[.agg #[.bool true, .bool true, .bool true, .bool false, .bool false, .bool false], .bool true]) (by simp [results, Tryz.results149, go_sem]) rfl ⟨fields_of HF.out, (Below.refl _ _).alloc (Nat.le_refl _) _⟩
  · have HF : Hid (fD op = true ∧ fA op = true ∧ fB op = false ∧ fI op = true ∧ fT op = false ∧ fM op = true ∧ fO op = true) := Lib.hid (by unfold fD fA fB fI fT fM fO; refine ⟨?_, ?_, ?_, ?_, ?_, ?_, ?_⟩ <;> first | exact decide_eq_true (by omega) | exact decide_eq_false (by omega))
    have n0 : (op == 0) = false := beq_eq_false_iff_ne.2 (by omega)
    have n1 : (op == 1) = false := beq_eq_false_iff_ne.2 (by omega)
    have n24 : (op == 24) = false := beq_eq_false_iff_ne.2 (by omega)
    have n25 : (op == 25) = false := beq_eq_false_iff_ne.2 (by omega)
    have n26 : (op == 26) = false := beq_eq_false_iff_ne.2 (by omega)
    have n27 : (op == 27) = false := beq_eq_false_iff_ne.2 (by omega)
    have g0 : 2 ≤ op := by omega
    have l0 : ¬ op ≤ 17 := by omega
    have g1 : 18 ≤ op := by omega
    have l1 : op ≤ 20 := by omega
    have g2 : ¬ 21 ≤ op := by omega
    have l2 : op ≤ 23 := by omega
    clear hc
    go_enter Tryz.func149, Tryz.ntmps149
    go_wp2_with fail
    exact bodyPost_ret (v := .tuple #[.agg #[.bool true, .bool true, .bool false, .bool true, .bool false, .bool true], .bool true]) (by simp [results, Tryz.results149, go_sem]) rfl ⟨fields_of HF.out, (Below.refl _ _).alloc (Nat.le_refl _) _⟩
  · have HF : Hid (fD op = false ∧ fA op = true ∧ fB op = true ∧ fI op = true ∧ fT op = false ∧ fM op = true ∧ fO op = true) := Lib.hid (by unfold fD fA fB fI fT fM fO; refine ⟨?_, ?_, ?_, ?_, ?_, ?_, ?_⟩ <;> first | exact decide_eq_true (by omega) | exact decide_eq_false (by omega))
    have n0 : (op == 0) = false := beq_eq_false_iff_ne.2 (by omega)
    have n1 : (op == 1) = false := beq_eq_false_iff_ne.2 (by omega)
    have n24 : (op == 24) = false := beq_eq_false_iff_ne.2 (by omega)
    have n25 : (op == 25) = false := beq_eq_false_iff_ne.2 (by omega)
    have n26 : (op == 26) = false := beq_eq_false_iff_ne.2 (by omega)
    have n27 : (op == 27) = false := beq_eq_false_iff_ne.2 (by omega)
    have g0 : 2 ≤ op := by omega
    have l0 : ¬ op ≤ 17 := by omega
    have g1 : 18 ≤ op := by omega
    have l1 : ¬ op ≤ 20 := by omega
    have g2 : 21 ≤ op := by omega
    have l2 : op ≤ 23 := by omega
    clear hc
    go_enter Tryz.func149, Tryz.ntmps149
    go_wp2_with fail
    exact bodyPost_ret (v := .tuple #[.agg #[.bool false, .bool true, .bool true, .bool true, .bool false, .bool true], .bool true]) (by simp [results, Tryz.results149, go_sem]) rfl ⟨fields_of HF.out, (Below.refl _ _).alloc (Nat.le_refl _) _⟩
  · subst hc
    have HF : Hid (fD (24 : Int) = false ∧ fA (24 : Int) = false ∧ fB (24 : Int) = false ∧ fI (24 : Int) = false ∧ fT (24 : Int) = true ∧ fM (24 : Int) = false ∧ fO (24 : Int) = true) := Lib.hid (by decide)
    go_enter Tryz.func149, Tryz.ntmps149
    go_wp2_with fail
    exact bodyPost_ret (v := .tuple #[.agg #[.bool false, .bool false, .bool false, .bool false, .bool true, .bool false], .bool true]) (by simp [results, Tryz.results149, go_sem]) rfl ⟨fields_of HF.out, (Below.refl _ _).alloc (Nat.le_refl _) _⟩
  · subst hc
    have HF : Hid (fD (25 : Int) = false ∧ fA (25 : Int) = true ∧ fB (25 : Int) = false ∧ fI (25 : Int) = false ∧ fT (25 : Int) = true ∧ fM (25 : Int) = false ∧ fO (25 : Int) = true) := Lib.hid (by decide)
    go_enter Tryz.func149, Tryz.ntmps149
    go_wp2_with fail
    exact bodyPost_ret (v := .tuple #[.agg #[.bool false, .bool true, .bool false, .bool false, .bool true, .bool false], .bool true]) (by simp [results, Tryz.results149, go_sem]) rfl ⟨fields_of HF.out, (Below.refl _ _).alloc (Nat.le_refl _) _⟩
  · subst hc
    have HF : Hid (fD (26 : Int) = false ∧ fA (26 : Int) = false ∧ fB (26 : Int) = false ∧ fI (26 : Int) = false ∧ fT (26 : Int) = false ∧ fM (26 : Int) = false ∧ fO (26 : Int) = true) := Lib.hid (by decide)
    go_enter Tryz.func149, Tryz.ntmps149
    go_wp2_with fail
    exact bodyPost_ret (v := .tuple #[.agg #[.bool false, .bool false, .bool false, .bool false, .bool false, .bool false], .bool true]) (by simp [results, Tryz.results149, go_sem]) rfl ⟨fields_of HF.out, (Below.refl _ _).alloc (Nat.le_refl _) _⟩
  · subst hc
    have HF : Hid (fD (27 : Int) = false ∧ fA (27 : Int) = false ∧ fB (27 : Int) = false ∧ fI (27 : Int) = false ∧ fT (27 : Int) = false ∧ fM (27 : Int) = false ∧ fO (27 : Int) = true) := Lib.hid (by decide)
    go_enter Tryz.func149, Tryz.ntmps149
    go_wp2_with fail
    exact bodyPost_ret (v := .tuple #[.agg #[.bool false, .bool false, .bool false, .bool false, .bool false, .bool false], .bool true]) (by simp [results, Tryz.results149, go_sem]) rfl ⟨fields_of HF.out, (Below.refl _ _).alloc (Nat.le_refl _) _⟩
  · have HF : Hid (fD op = false ∧ fA op = false ∧ fB op = false ∧ fI op = false ∧ fT op = false ∧ fM op = false ∧ fO op = false) := Lib.hid (by unfold fD fA fB fI fT fM fO; refine ⟨?_, ?_, ?_, ?_, ?_, ?_, ?_⟩ <;> first | exact decide_eq_true (by omega) | exact decide_eq_false (by omega))
    have n0 : (op == 0) = false := beq_eq_false_iff_ne.2 (by omega)
    have n1 : (op == 1) = false := beq_eq_false_iff_ne.2 (by omega)
    have n24 : (op == 24) = false := beq_eq_false_iff_ne.2 (by omega)
    have n25 : (op == 25) = false := beq_eq_false_iff_ne.2 (by omega)
    have n26 : (op == 26) = false := beq_eq_false_iff_ne.2 (by omega)
    have n27 : (op == 27) = false := beq_eq_false_iff_ne.2 (by omega)
    have g0 : ¬ 2 ≤ op := by omega
    have l0 : op ≤ 17 := by omega
    have g1 : ¬ 18 ≤ op := by omega
    have l1 : op ≤ 20 := by omega
    have g2 : ¬ 21 ≤ op := by omega
    have l2 : op ≤ 23 := by omega
    clear hc
    go_enter Tryz.func149, Tryz.ntmps149
    go_wp2_with fail
    exact bodyPost_ret (v := .tuple #[.agg #[.bool false, .bool false, .bool false, .bool false, .bool false, .bool false], .bool false]) (by simp [results, Tryz.results149, go_sem]) rfl ⟨fields_of HF.out, (Below.refl _ _).alloc (Nat.le_refl _) _⟩
  · have HF : Hid (fD op = false ∧ fA op = false ∧ fB op = false ∧ fI op = false ∧ fT op = false ∧ fM op = false ∧ fO op = false) := Lib.hid (by unfold fD fA fB fI fT fM fO; refine ⟨?_, ?_, ?_, ?_, ?_, ?_, ?_⟩ <;> first | exact decide_eq_true (by omega) | exact decide_eq_false (by omega))
    have n0 : (op == 0) = false := beq_eq_false_iff_ne.2 (by omega)
    have n1 : (op == 1) = false := beq_eq_false_iff_ne.2 (by omega)
    have n24 : (op == 24) = false := beq_eq_false_iff_ne.2 (by omega)
    have n25 : (op == 25) = false := beq_eq_false_iff_ne.2 (by omega)
    have n26 : (op == 26) = false := beq_eq_false_iff_ne.2 (by omega)
    have n27 : (op == 27) = false := beq_eq_false_iff_ne.2 (by omega)
    have g0 : 2 ≤ op := by omega
    have l0 : ¬ op ≤ 17 := by omega
    have g1 : 18 ≤ op := by omega
    have l1 : ¬ op ≤ 20 := by omega
    have g2 : 21 ≤ op := by omega
    have l2 : ¬ op ≤ 23 := by omega
    clear hc
    go_enter Tryz.func149, Tryz.ntmps149
    go_wp2_with fail
    exact bodyPost_ret (v := .tuple #[.agg #[.bool false, .bool false, .bool false, .bool false, .bool false, .bool false], .bool false]) (by simp [results, Tryz.results149, go_sem]) rfl ⟨fields_of HF.out, (Below.refl _ _).alloc (Nat.le_refl _) _⟩
theorem isLast_any (op : Int) (w : World) : Calls Tryz.prog 92 #[.int .i64 op] w fun e w' => e = .returned (.bool (isLastB op)) ∧ w = w' := by
  by_cases h1 : op = 24
  · subst h1
    go_enter Tryz.func92, Tryz.ntmps92
    go_wp2_with fail
    go_ret
    exact ⟨rfl, rfl⟩
  by_cases h2 : op = 26
  · subst h2
    go_enter Tryz.func92, Tryz.ntmps92
    go_wp2_with fail
    go_ret
    exact ⟨rfl, rfl⟩
  by_cases h3 : op = 27
  · subst h3
    go_enter Tryz.func92, Tryz.ntmps92
    go_wp2_with fail
    go_ret
    exact ⟨rfl, rfl⟩
  have hb : isLastB op = false := by unfold isLastB; simp [h1, h2, h3]
  have n1 : (op == 24) = false := beq_eq_false_iff_ne.2 h1
  have n2 : (op == 26) = false := beq_eq_false_iff_ne.2 h2
  have n3 : (op == 27) = false := beq_eq_false_iff_ne.2 h3
  rw [hb]
  clear hb h1 h2 h3
  go_enter Tryz.func92, Tryz.ntmps92
  go_wp2_with fail
  go_ret
  exact ⟨ret_bool (by first | exact n3 | rfl), rfl⟩
end Go.Proofs.YtpdbokbmchlgpaaGreat.PK
