/- ordered and before of the document. -/
import Derived.Test.YtahaoddilejpnaaCU
namespace Go.Proofs.Ytahaoddilejpnaa
open Go.RowKit

/-- A list with one more element at a place. -/
def holeL {α : Type} (O : List α) (k : Nat) (y : α) : List α := O.take k ++ y :: O.drop k
theorem hole_len {α : Type} (O : List α) (k : Nat) (y : α) : (holeL O k y).length = O.length + 1 := by
  have := congrArg List.length (List.take_append_drop k O)
  rw [List.length_append] at this
  unfold holeL
  rw [List.length_append, List.length_cons]; omega
theorem hole_start {α : Type} (O : List α) (y : α) : O ++ [y] = holeL O O.length y := by unfold holeL; simp
theorem hole_set {α : Type} (O : List α) (k : Nat) (y x : α) (hk : k ≤ O.length) : (holeL O k y).set k x = holeL O k x := by
  unfold holeL
  have hl : (O.take k).length = k := by rw [List.length_take]; omega
  rw [List.set_append_right _ _ (by omega), hl, Nat.sub_self, List.set_cons_zero]
theorem hole_get {α : Type} (O : List α) (k : Nat) (y : α) (hk : k < O.length) : (holeL O (k + 1) y)[k]? = O[k]? := by
  unfold holeL
  rw [List.getElem?_append_left (by rw [List.length_take]; omega), List.getElem?_take, if_pos (by omega)]
theorem hole_step {α : Type} (O : List α) (k : Nat) (hk : k < O.length) : holeL O (k + 1) O[k] = holeL O k O[k] := by
  unfold holeL
  rw [List.take_succ_eq_append_getElem hk, List.append_assoc, List.singleton_append, ← List.drop_eq_getElem_cons hk]
theorem hole_map {α β : Type} (f : α → β) (O : List α) (k : Nat) (y : α) : (holeL O k y).map f = holeL (O.map f) k (f y) := by unfold holeL; simp
theorem at_of {α : Type} {lt : α → α → Prop} [DecidableRel lt] {x : α} : ∀ {O : List α} {j : Nat}, (∀ i (h : i < O.length), i < j → lt O[i] x) → j ≤ O.length → (∀ h : j < O.length, ¬ lt O[j] x) → atG lt x O = j
  | [], j, _, h2, _ => by simp at h2; subst h2; rfl
  | y :: r, 0, _, _, h3 => by
    unfold atG
    rw [List.takeWhile_cons, if_neg (fun e => h3 (by simp) (of_decide_eq_true e))]; rfl
  | y :: r, j + 1, h1, h2, h3 => by
    have hy : lt y x := h1 0 (by simp) (by omega)
    have ih := at_of (lt := lt) (x := x) (O := r) (j := j) (fun i h hij => h1 (i + 1) (by simpa using h) (by omega)) (by simpa using h2) (fun h => h3 (by simpa using h))
    unfold atG at ih ⊢
    rw [List.takeWhile_cons, if_pos (decide_eq_true hy), List.length_cons, ih]
theorem ins_hole {α : Type} [DecidableEq α] {lt : α → α → Prop} [DecidableRel lt] {x : α} {O : List α} (h : O[atG lt x O]? ≠ some x) : insG lt x O = holeL O (atG lt x O) x := by unfold insG holeL; rw [if_neg h]
theorem ins_there {α : Type} [DecidableEq α] {lt : α → α → Prop} [DecidableRel lt] {x : α} {O : List α} (h : O[atG lt x O]? = some x) : insG lt x O = O := by unfold insG; rw [if_pos h]
set_option maxHeartbeats 1000000 in
theorem before_any (x y : List Int) (a b : Option Addr) (ca cb : Nat) (w : World) (ha : IntsIn w a x) (hb : IntsIn w b y) (hl : x.length ≤ 1000000) :
    Calls Try.prog 58 #[.slice a x.length ca, .slice b y.length cb] w fun e w' => e = .returned (.bool (decide (lexC x y < 0))) ∧ Below w.heap.size w w' := by
  have HA := Lib.hid ha; have HB := Lib.hid hb
  have HX := Lib.hid (@lex_eq x y)
  clear ha hb
  generalize hres : decide (lexC x y < 0) = res
  have HRes := Lib.hid hres; clear hres
  go_enter Try.func58, Try.ntmps58
  go_wp2_with fail
  go_loopw [5] (fun i wr => ∃ k : Nat, k ≤ x.length ∧ k ≤ y.length ∧ i = .int .i64 k ∧ Below w.heap.size w wr ∧ Hid (∀ j, j < k → x.getD j 0 = y.getD j 0)) (fun i _ => x.length - (intOf i).toNat)
  case atStart => exact ⟨0, Nat.zero_le _, Nat.zero_le _, rfl, Below.refl _ _, Lib.hid fun j hj => absurd hj (Nat.not_lt_zero _)⟩
  case round =>
    obtain ⟨k, hk, hk2, rfl, hbl, HE⟩ := hrel
    have HBl := Lib.hid hbl
    have HL := Lib.hid (HX.out k hk hk2 HE.out)
    by_cases hlt : k < x.length
    · have hki : (k : Int) < (x.length : Int) := by omega
      by_cases hlt2 : k < y.length
      · obtain ⟨b1, o1, rfl, h1⟩ := HA.out.below hbl k hlt
        obtain ⟨b2, o2, rfl, h2⟩ := HB.out.below hbl k hlt2
        have HD1 := Lib.hid (drop_cons hlt)
        have HD2 := Lib.hid (drop_cons hlt2)
        have hki2 : (k : Int) < (y.length : Int) := by omega
        clear hbl
        have HE1 : Hid (x.getD k 0 = y.getD k 0 → ∀ j, j < k + 1 → x.getD j 0 = y.getD j 0) := Lib.hid fun h j hj => by
          by_cases e : j = k
          · rw [e]; exact h
          · exact HE.out j (by omega)
        generalize x.getD k 0 = p at *
        generalize y.getD k 0 = q at *
        by_cases c1 : p = q
        · have hne : (p != q) = false := by simp [c1]
          have HPQ := Lib.hid c1; clear c1
          go_wp2_with fail
          go_quiet (fail)
          go_wp2_with fail
          go_roundw
          case rel => exact ⟨k + 1, by omega, by omega, by go_num, below_drewN HBl.out _, Lib.hid (HE1.out HPQ.out)⟩
          case measure => simp [intOf]; omega
        · have hne : (p != q) = true := by simp [c1]
          have HR : Hid (res = decide (p < q)) := Lib.hid (by
            rw [← HRes.out, HL.out, HD1.out, HD2.out]
            refine decide_eq_decide.2 ?_
            unfold lexC
            by_cases h : p < q
            · rw [if_pos h]; simp [h]
            · rw [if_neg h, if_pos (by omega)]; simp [h])
          clear c1
          by_cases c2 : p < q
          · have HR2 : Hid (res = true) := Lib.hid (by rw [HR.out]; exact decide_eq_true c2)
            go_wp2_with fail
            go_quiet (fail)
            go_wp2_with fail
            go_quiet (fail)
            go_wp2_with fail
            go_ret
            exact ⟨ret_bool HR2.out.symm, below_drewN (below_drewN HBl.out _) _⟩
          · have HR2 : Hid (res = false) := Lib.hid (by rw [HR.out]; exact decide_eq_false c2)
            go_wp2_with fail
            go_quiet (fail)
            go_wp2_with fail
            go_quiet (fail)
            go_wp2_with fail
            go_ret
            exact ⟨ret_bool HR.out.symm, below_drewN (below_drewN HBl.out _) _⟩
      · have hki2 : ¬ (k : Int) < (y.length : Int) := by omega
        have hxy : ¬ (x.length : Int) < (y.length : Int) := by omega
        have HR : Hid (res = false) := Lib.hid (by
          rw [← HRes.out, HL.out, drop_cons hlt, List.drop_eq_nil_of_le (show y.length ≤ k by omega)]; rfl)
        go_wp2_with fail
        go_ret
        exact ⟨ret_bool HR.out.symm, HBl.out⟩
    · have hki : ¬ (k : Int) < (x.length : Int) := by omega
      by_cases hxy : k < y.length
      · have h3 : (x.length : Int) < (y.length : Int) := by omega
        have HR : Hid (res = true) := Lib.hid (by
          rw [← HRes.out, HL.out, drop_cons hxy, List.drop_eq_nil_of_le (show x.length ≤ k by omega)]; rfl)
        go_wp2_with fail
        go_ret
        exact ⟨ret_bool HR.out.symm, HBl.out⟩
      · have h3 : ¬ (x.length : Int) < (y.length : Int) := by omega
        have HR : Hid (res = false) := Lib.hid (by
          rw [← HRes.out, HL.out, List.drop_eq_nil_of_le (show y.length ≤ k by omega), List.drop_eq_nil_of_le (show x.length ≤ k by omega)]; rfl)
        go_wp2_with fail
        go_ret
        exact ⟨ret_bool HR.out.symm, HBl.out⟩
end Go.Proofs.Ytahaoddilejpnaa
