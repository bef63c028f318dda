/- Comparing numbers and lists; plain of the program. -/
import Derived.Test.YtahaoddilejpnaaCP
import Derived.Test.YtahaoddilejpnaaPB
import Derived.Test.YtahaoddilejpnaaHF
namespace Go.Proofs.Ytahaoddilejpnaa
open Go.RowKit

theorem isNaN_any (x : Int) (w : World) : Calls Try.prog 98 #[.int .i64 x] w fun e w' => e = .returned (.bool false) ∧ w' = w := by
  have hx : (x != x) = false := by simp
  go_enter Try.func98, Try.ntmps98
  go_wp2_with fail
  go_ret
  exact ⟨rfl, rfl⟩
theorem cmpI_any (x y : Int) (w : World) : Calls Try.prog 80 #[.int .i64 x, .int .i64 y] w fun e w' => e = .returned (.int .i64 (if x < y then -1 else if y < x then 1 else 0)) ∧ w' = w := by
  have HN := Lib.hid isNaN_any
  by_cases h1 : x < y
  · rw [if_pos h1]
    go_enter Try.func80, Try.ntmps80
    go_wp2_with fail
    refine (HN.out _ _).mono ?_; rintro e v ⟨rfl, rfl⟩
    go_wp2_with fail
    refine (HN.out _ _).mono ?_; rintro e v ⟨rfl, rfl⟩
    go_wp2_with fail
    go_ret
    exact ⟨rfl, rfl⟩
  · rw [if_neg h1]
    by_cases h2 : y < x
    · rw [if_pos h2]
      go_enter Try.func80, Try.ntmps80
      go_wp2_with fail
      refine (HN.out _ _).mono ?_; rintro e v ⟨rfl, rfl⟩
      go_wp2_with fail
      refine (HN.out _ _).mono ?_; rintro e v ⟨rfl, rfl⟩
      go_wp2_with fail
      go_ret
      exact ⟨rfl, rfl⟩
    · rw [if_neg h2]
      go_enter Try.func80, Try.ntmps80
      go_wp2_with fail
      refine (HN.out _ _).mono ?_; rintro e v ⟨rfl, rfl⟩
      go_wp2_with fail
      refine (HN.out _ _).mono ?_; rintro e v ⟨rfl, rfl⟩
      go_wp2_with fail
      go_ret
      exact ⟨rfl, rfl⟩
theorem lex_eq {x y : List Int} : ∀ k, k ≤ x.length → k ≤ y.length → (∀ j, j < k → x.getD j 0 = y.getD j 0) → lexC x y = lexC (x.drop k) (y.drop k)
  | 0, _, _, _ => by rw [List.drop_zero, List.drop_zero]
  | k + 1, h1, h2, h => by
    rw [lex_eq k (by omega) (by omega) fun j hj => h j (by omega)]
    have e := h k (by omega)
    rw [List.drop_eq_getElem_cons (show k < x.length by omega), List.drop_eq_getElem_cons (show k < y.length by omega)]
    rw [List.getD_eq_getElem?_getD, List.getElem?_eq_getElem (show k < x.length by omega), List.getD_eq_getElem?_getD, List.getElem?_eq_getElem (show k < y.length by omega)] at e
    simp only [Option.getD_some] at e
    conv => lhs; unfold lexC
    rw [if_neg (by omega), if_neg (by omega)]
theorem drop_cons {x : List Int} {k : Nat} (h : k < x.length) : x.drop k = x.getD k 0 :: x.drop (k + 1) := by
  rw [List.drop_eq_getElem_cons h, List.getD_eq_getElem?_getD, List.getElem?_eq_getElem h]; rfl
set_option maxHeartbeats 1000000 in
theorem cmpL_any (x y : List Int) (a b : Option Addr) (ca cb : Nat) (w : World) (ha : IntsIn w a x) (hb : IntsIn w b y) (hl : x.length ≤ 1000000) :
    Calls Try.prog 54 #[.slice a x.length ca, .slice b y.length cb] w fun e w' => e = .returned (.int .i64 (lexC x y)) ∧ w' = w := by
  have HA := Lib.hid ha; have HB := Lib.hid hb
  have HC := Lib.hid cmpI_any
  have HX := Lib.hid (@lex_eq x y)
  clear ha hb
  go_enter Try.func54, Try.ntmps54
  go_wp2_with fail
  go_loopw [11] (fun i wr => ∃ k : Nat, k ≤ x.length ∧ k ≤ y.length ∧ i = .int .i64 k ∧ w = wr ∧ Hid (∀ j, j < k → x.getD j 0 = y.getD j 0)) (fun i _ => x.length - (intOf i).toNat)
  case atStart => exact ⟨0, Nat.zero_le _, Nat.zero_le _, rfl, rfl, Lib.hid fun j hj => absurd hj (Nat.not_lt_zero _)⟩
  case round =>
    obtain ⟨k, hk, hk2, rfl, rfl, HE⟩ := hrel
    have HL := Lib.hid (HX.out k hk hk2 HE.out)
    by_cases hlt : k < x.length
    · obtain ⟨b1, o1, rfl, h1⟩ := HA.out k hlt
      have HD1 := Lib.hid (drop_cons hlt)
      have hki : (k : Int) < (x.length : Int) := by omega
      by_cases hlt2 : k < y.length
      · obtain ⟨b2, o2, rfl, h2⟩ := HB.out k hlt2
        have HD2 := Lib.hid (drop_cons hlt2)
        have hki2 : ¬ (y.length : Int) ≤ (k : Int) := by omega
        have hkd2 : decide ((y.length : Int) ≤ (k : Int)) = false := decide_eq_false hki2
        have HE1 : Hid (x.getD k 0 = y.getD k 0 → ∀ j, j < k + 1 → x.getD j 0 = y.getD j 0) := Lib.hid fun h j hj => by
          by_cases e : j = k
          · rw [e]; exact h
          · exact HE.out j (by omega)
        generalize x.getD k 0 = p at *
        generalize y.getD k 0 = q at *
        have HCC := Lib.hid (HC.out p q)
        by_cases c1 : p < q
        · rw [if_pos c1] at HCC
          have HR : Hid (lexC x y = -1) := Lib.hid (by rw [HL.out, HD1.out, HD2.out]; unfold lexC; rw [if_pos c1])
          clear c1
          go_wp2_with fail
          refine (HCC.out _).mono ?_; rintro e v ⟨rfl, rfl⟩
          go_wp2_with fail
          go_ret
          exact ⟨ret_int HR.out.symm, rfl⟩
        · rw [if_neg c1] at HCC
          by_cases c2 : q < p
          · rw [if_pos c2] at HCC
            have HR : Hid (lexC x y = 1) := Lib.hid (by rw [HL.out, HD1.out, HD2.out]; unfold lexC; rw [if_neg c1, if_pos c2])
            clear c1 c2
            go_wp2_with fail
            refine (HCC.out _).mono ?_; rintro e v ⟨rfl, rfl⟩
            go_wp2_with fail
            go_ret
            exact ⟨ret_int HR.out.symm, rfl⟩
          · rw [if_neg c2] at HCC
            have HPQ := Lib.hid (show p = q by omega)
            clear c1 c2
            go_wp2_with fail
            refine (HCC.out _).mono ?_; rintro e v ⟨rfl, rfl⟩
            go_wp2_with fail
            go_roundw
            case rel => exact ⟨k + 1, by omega, by omega, by go_num, by trivial, Lib.hid (HE1.out HPQ.out)⟩
            case measure => simp [intOf]; omega
      · have hki2 : (y.length : Int) ≤ (k : Int) := by omega
        have hkd2 : decide ((y.length : Int) ≤ (k : Int)) = true := decide_eq_true hki2
        have HR : Hid (lexC x y = 1) := Lib.hid (by rw [HL.out, HD1.out, List.drop_eq_nil_of_le (show y.length ≤ k by omega)]; rfl)
        go_wp2_with fail
        go_ret
        exact ⟨ret_int HR.out.symm, rfl⟩
    · have hki : ¬ (k : Int) < (x.length : Int) := by omega
      have hkx : x.length = k := by omega
      by_cases hxy : k < y.length
      · have h3 : (x.length : Int) < (y.length : Int) := by omega
        have HR : Hid (lexC x y = -1) := Lib.hid (by rw [HL.out, drop_cons hxy, List.drop_eq_nil_of_le (show x.length ≤ k by omega)]; rfl)
        go_wp2_with fail
        go_ret
        exact ⟨ret_int HR.out.symm, rfl⟩
      · have h3 : ¬ (x.length : Int) < (y.length : Int) := by omega
        have HR : Hid (lexC x y = 0) := Lib.hid (by rw [HL.out, List.drop_eq_nil_of_le (show y.length ≤ k by omega), List.drop_eq_nil_of_le (show x.length ≤ k by omega)]; rfl)
        go_wp2_with fail
        go_ret
        exact ⟨ret_int HR.out.symm, rfl⟩
theorem ne_at {x y : List Int} {k : Nat} (h : x.getD k 0 ≠ y.getD k 0) : decide (x = y) = false := decide_eq_false fun e => h (by rw [e])
theorem eq_all {x y : List Int} (hl : x.length = y.length) (h : ∀ j, j < x.length → x.getD j 0 = y.getD j 0) : decide (x = y) = true := decide_eq_true (List.ext_getElem hl fun i h1 h2 => by
  have := h i h1
  rwa [List.getD_eq_getElem?_getD, List.getElem?_eq_getElem h1, List.getD_eq_getElem?_getD, List.getElem?_eq_getElem h2] at this)
set_option maxHeartbeats 1000000 in
theorem eqL_any (x y : List Int) (a b : Option Addr) (ca cb : Nat) (w : World) (ha : IntsIn w a x) (hb : IntsIn w b y) (hl : x.length ≤ 1000000) :
    Calls Try.prog 56 #[.slice a x.length ca, .slice b y.length cb] w fun e w' => e = .returned (.bool (decide (x = y))) ∧ Below w.heap.size w w' := by
  have HA := Lib.hid ha; have HB := Lib.hid hb
  clear ha hb
  by_cases hxy : x.length = y.length
  rotate_left
  · have HR : Hid (decide (x = y) = false) := Lib.hid (decide_eq_false fun e => hxy (by rw [e]))
    have h2 : ((x.length : Int) != (y.length : Int)) = true := by simp; omega
    generalize decide (x = y) = r at *
    have hxn : ¬ (x.length : Int) = (y.length : Int) := by omega
    go_enter Try.func56, Try.ntmps56
    go_wp2_with fail
    go_ret
    exact ⟨ret_bool HR.out.symm, Below.refl _ _⟩
  have HNe := Lib.hid (fun k => @ne_at x y k)
  have HEq := Lib.hid (eq_all hxy)
  have HXY := Lib.hid hxy
  have HB : Hid (IntsIn w b y) := HB
  generalize decide (x = y) = r at *
  have hye : Value.slice b y.length cb = Value.slice b x.length cb := by rw [hxy]
  rw [hye]
  clear hye hxy
  have h2 : ((x.length : Int) != (x.length : Int)) = false := by simp
  go_enter Try.func56, Try.ntmps56
  go_wp2_with fail
  go_loopw [13] (fun i wr => ∃ k : Nat, k ≤ x.length ∧ i = .int .i64 k ∧ Below w.heap.size w wr ∧ Hid (∀ j, j < k → x.getD j 0 = y.getD j 0)) (fun i _ => x.length - (intOf i).toNat)
  case atStart => exact ⟨0, Nat.zero_le _, rfl, Below.refl _ _, Lib.hid fun j hj => absurd hj (Nat.not_lt_zero _)⟩
  case round =>
    obtain ⟨k, hk, rfl, hbl, HE⟩ := hrel
    have HBl := Lib.hid hbl
    by_cases hlt : k < x.length
    · obtain ⟨b1, o1, rfl, h1⟩ := HA.out.below hbl k hlt
      obtain ⟨b2, o2, rfl, h2⟩ := HB.out.below hbl k (by have := HXY.out; omega)
      have hki : (k : Int) < (x.length : Int) := by omega
      clear hbl
      have HE1 : Hid (x.getD k 0 = y.getD k 0 → ∀ j, j < k + 1 → x.getD j 0 = y.getD j 0) := Lib.hid fun h j hj => by
        by_cases e : j = k
        · rw [e]; exact h
        · exact HE.out j (by omega)
      have HN := Lib.hid (HNe.out k)
      generalize x.getD k 0 = p at *
      generalize y.getD k 0 = q at *
      by_cases c1 : p = q
      · have hne : (p != q) = false := by simp [c1]
        have HPQ := Lib.hid c1; clear c1
        go_wp2_with fail
        go_quiet (fail)
        go_wp2_with fail
        go_roundw
        case rel => exact ⟨k + 1, by omega, by go_num, below_drewN HBl.out _, Lib.hid (HE1.out HPQ.out)⟩
        case measure => simp [intOf]; omega
      · have hne : (p != q) = true := by simp [c1]
        have HR := Lib.hid (HN.out c1)
        go_wp2_with fail
        go_quiet (fail)
        go_wp2_with fail
        go_ret
        exact ⟨ret_bool HR.out.symm, below_drewN HBl.out _⟩
    · have hki : ¬ (k : Int) < (x.length : Int) := by omega
      have HR := Lib.hid (HEq.out fun j hj => HE.out j (by omega))
      clear hbl
      go_wp2_with fail
      go_ret
      exact ⟨ret_bool HR.out.symm, HBl.out⟩
end Go.Proofs.Ytahaoddilejpnaa
