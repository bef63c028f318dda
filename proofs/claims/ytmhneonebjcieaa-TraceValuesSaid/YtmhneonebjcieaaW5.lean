/- The walk of Validate of the document. -/
import Derived.Test.YtmhneonebjcieaaW4
namespace Go.Proofs.Ytmhneonebjcieaa
open Go.RowKit

theorem rPlace_is {p : Pl} {b : Bool} (h : isPl p = b) (w : World) : Calls Try.prog 53 #[(.agg #[.int .i64 p.fr, .int .i64 p.to, .int .i64 p.va, .int .i64 p.ki, .int .i64 p.nn])] w fun e w' => e = .returned (.bool b) ∧ Below w.heap.size w w' := by rw [← h]; exact rPlace_any p w
theorem before_is {p q : Pl} {b : Bool} (h : ltP p q = b) (w : World) : Calls Try.prog 54 #[(.agg #[.int .i64 p.fr, .int .i64 p.to, .int .i64 p.va, .int .i64 p.ki, .int .i64 p.nn]), (.agg #[.int .i64 q.fr, .int .i64 q.to, .int .i64 q.va, .int .i64 q.ki, .int .i64 q.nn])] w fun e w' => e = .returned (.bool b) ∧ Below w.heap.size w w' := by rw [← h]; exact before_any p q w
theorem badAt_succ' {l : List Pl} {k : Nat} {x y : Pl} (hx : at' l (k + 1) = x) (hy : at' l k = y) (h : isPl x = true) : badAt l (k + 1) = !ltP y x := by
  unfold badAt; rw [hx, h, Nat.add_sub_cancel, hy, decide_eq_true (Nat.succ_pos k)]; rfl
theorem hitAt_yes {l : List Pl} {i k : Nat} (hi : i ≤ l.length) (hk : k < i) (h : clash (at' l i) (at' l k) = true) : hitAt l i = true := by
  unfold hitAt
  rw [any_at]
  exact anyTo_true.2 ⟨k, by rw [List.length_take]; omega, by rw [at_take hk]; exact h⟩
theorem hitAt_no {l : List Pl} {i : Nat} (h : ∀ k, k < i → clash (at' l i) (at' l k) = false) : hitAt l i = false := by
  unfold hitAt
  rw [any_at]
  refine anyTo_false.2 fun k hk => ?_
  rw [List.length_take] at hk
  rw [at_take (by omega)]
  exact h k (by omega)

set_option maxRecDepth 100000 in
set_option maxHeartbeats 4000000 in
theorem rValid_any (l : List Pl) (a : Option Addr) (cap : Nat) (w : World) (hin : PlsIn w a l) (hl : l.length ≤ 1000) :
    Calls Try.prog 29 #[.slice a l.length cap] w fun e w' => e = .returned (.int .i64 (valE l)) ∧ Below w.heap.size w w' := by
  have HI := Lib.hid hin; clear hin
  by_cases h64 : 64 < l.length
  · have hE : valE l = 3 := by unfold valE; rw [if_pos h64]
    have hi : (64 : Int) < (l.length : Int) := by omega
    rw [hE]
    clear hE
    go_enter Try.func29, Try.ntmps29
    go_wp2_with fail
    go_ret
    exact ⟨rfl, Below.refl _ _⟩
  have hi : ¬ (64 : Int) < (l.length : Int) := by omega
  have HBad : Hid (∀ k, k < l.length → badAt l k = true → valE l = 1) := Lib.hid fun k hk h => by
    unfold valE; rw [if_neg h64, if_pos (anyTo_true.2 ⟨k, hk, h⟩)]
  have HHit : Hid ((∀ k, k < l.length → badAt l k = false) → ∀ k, k < l.length → hitAt l k = true → valE l = 7) := Lib.hid fun h0 k hk h => by
    unfold valE; rw [if_neg h64, if_neg (by rw [anyTo_false.2 h0]; simp), if_pos (anyTo_true.2 ⟨k, hk, h⟩)]
  have HOk : Hid ((∀ k, k < l.length → badAt l k = false) → (∀ k, k < l.length → hitAt l k = false) → valE l = 0) := Lib.hid fun h0 h1 => by
    unfold valE; rw [if_neg h64, if_neg (by rw [anyTo_false.2 h0]; simp), if_neg (by rw [anyTo_false.2 h1]; simp)]
  generalize valE l = E at *
  go_enter Try.func29, Try.ntmps29
  go_wp2_with fail
  go_loopw [3] (fun i wr => ∃ k : Nat, k ≤ l.length ∧ i = .int .i64 k ∧ (∀ j, j < k → badAt l j = false) ∧ Below w.heap.size w wr) (fun i _ => l.length - (intOf i).toNat)
  case atStart => exact ⟨0, Nat.zero_le _, rfl, fun j hj => absurd hj (Nat.not_lt_zero _), Below.refl _ _⟩
  case round =>
    obtain ⟨k, hk, rfl, hny, hb⟩ := hrel
    have HB := Lib.hid hb; have HN := Lib.hid hny; clear hny hb
    by_cases hlt : k < l.length
    · obtain ⟨b, off, rfl, hc⟩ := HI.out.below HB.out k hlt
      have HNext : Hid (badAt l k = false → ∀ j, j < k + 1 → badAt l j = false) := Lib.hid fun h j hj => by
        by_cases e : j = k
        · rw [e]; exact h
        · exact HN.out j (by omega)
      have HBk := Lib.hid (HBad.out k hlt)
      by_cases h0 : k = 0
      · subst h0
        generalize hx : at' l 0 = x at *
        have HX := Lib.hid hx; clear hx
        obtain ⟨x0, x1, x2, x3, x4⟩ := x
        obtain ⟨c0, c1, c2, c3, c4⟩ := hc
        simp only [Nat.zero_mul, Nat.add_zero] at c0 c1 c2 c3 c4
        have hz : ¬ (0 : Int) < 0 := by omega
        have hli : (0 : Int) < (l.length : Int) := by omega
        clear HHit HOk HBad HN
        cases hP : isPl ⟨x0, x1, x2, x3, x4⟩
        · have HE := Lib.hid (HBk.out (badAt_no HX.out hP))
          have HP := Lib.hid hP; clear hP
          have HPc := Lib.hid (rPlace_is HP.out)
          have HPP : Hid (∀ w, Calls Try.prog 53 #[.agg #[.int .i64 x0, .int .i64 x1, .int .i64 x2, .int .i64 x3, .int .i64 x4]] w fun e w' => e = .returned (.bool false) ∧ Below w.heap.size w w') := HPc
          clear HPc
          go_wp2_with fail
          refine wp_region_held_drew (S := (fun w' => w'.cell? ⟨b, off, none⟩ = some (.int .i64 x0) ∧ w'.cell? ⟨b, off + 1, none⟩ = some (.int .i64 x1) ∧ w'.cell? ⟨b, off + 2, none⟩ = some (.int .i64 x2) ∧ w'.cell? ⟨b, off + 3, none⟩ = some (.int .i64 x3) ∧ w'.cell? ⟨b, off + 4, none⟩ = some (.int .i64 x4))) (by kernel_rfl) ⟨c0, c1, c2, c3, c4⟩ (fun hHeld => ?_)
          refine wpAnyH_take (i := 0) (v := ?v0b) (by simp only [List.getElem?_toArray, List.getElem?_cons_zero]; rfl) (by kernel_rfl) (by kernel_rfl) (by kernel_rfl) (by exact fun _ _ _ h => h) (Or.inl ⟨by rfl, ?hy0b⟩) (by assumption) ?_
          case hy0b => intro w hSw; (try dsimp only at hSw); go_simp; try with_reducible rfl
          try simp only [Act.put, List.setIfInBounds_toArray, List.set_cons_zero, List.set_cons_succ]
          refine wpAnyH_take (i := 1) (v := ?v1b) (by simp only [List.getElem?_toArray, List.getElem?_cons_zero, List.getElem?_cons_succ]; rfl) (by kernel_rfl) (by kernel_rfl) (by kernel_rfl) (by exact fun _ _ _ h => h) (Or.inl ⟨by rfl, ?hy1b⟩) (by assumption) ?_
          case hy1b => intro w hSw; (try dsimp only at hSw); go_simp; try with_reducible rfl
          try simp only [Act.put, List.setIfInBounds_toArray, List.set_cons_zero, List.set_cons_succ]
          refine wpAnyH_take (i := 2) (v := ?v2b) (by simp only [List.getElem?_toArray, List.getElem?_cons_zero, List.getElem?_cons_succ]; rfl) (by kernel_rfl) (by kernel_rfl) (by kernel_rfl) (by exact fun _ _ _ h => h) (Or.inl ⟨by rfl, ?hy2b⟩) (by assumption) ?_
          case hy2b => intro w hSw; (try dsimp only at hSw); go_simp; try with_reducible rfl
          try simp only [Act.put, List.setIfInBounds_toArray, List.set_cons_zero, List.set_cons_succ]
          refine wpAnyH_take (i := 3) (v := ?v3b) (by simp only [List.getElem?_toArray, List.getElem?_cons_zero, List.getElem?_cons_succ]; rfl) (by kernel_rfl) (by kernel_rfl) (by kernel_rfl) (by exact fun _ _ _ h => h) (Or.inl ⟨by rfl, ?hy3b⟩) (by assumption) ?_
          case hy3b => intro w hSw; (try dsimp only at hSw); go_simp; try with_reducible rfl
          try simp only [Act.put, List.setIfInBounds_toArray, List.set_cons_zero, List.set_cons_succ]
          refine wpAnyH_ready (rs := [4]) (by kernel_rfl) (by simp) ?_
          refine AllReadyH.cons (by simp only [List.getElem?_toArray, List.getElem?_cons_zero, List.getElem?_cons_succ]; rfl) (fun K hK => ?_) AllReadyH.nil
          go_simp
          go_at_call 53; refine (HPP.out _).mono ?_; rintro e w1 ⟨rfl, hb1⟩; have hb1 := below_of_drew hb1
          refine hK.out _ _ ⟨keep c0 hb1, keep c1 hb1, keep c2 hb1, keep c3 hb1, keep c4 hb1⟩ (fun hHeld2 => ?_)
          clear hK K
          try simp only [Act.put, List.setIfInBounds_toArray, List.set_cons_zero, List.set_cons_succ]
          refine wpAnyH_take (i := 5) (v := ?v5b) (by simp only [List.getElem?_toArray, List.getElem?_cons_zero, List.getElem?_cons_succ]; rfl) (by kernel_rfl) (by kernel_rfl) (by kernel_rfl) (by exact fun _ _ _ h => h) (Or.inl ⟨by rfl, ?hy5b⟩) (by assumption) ?_
          case hy5b => intro w hSw; (try dsimp only at hSw); go_simp; try with_reducible rfl
          try simp only [Act.put, List.setIfInBounds_toArray, List.set_cons_zero, List.set_cons_succ]
          refine wpAnyH_take (i := 6) (v := ?v6b) (by simp only [List.getElem?_toArray, List.getElem?_cons_zero, List.getElem?_cons_succ]; rfl) (by kernel_rfl) (by kernel_rfl) (by kernel_rfl) (by exact fun _ _ _ h => h) (Or.inl ⟨by rfl, ?hy6b⟩) (by assumption) ?_
          case hy6b => intro w hSw; (try dsimp only at hSw); go_simp; try with_reducible rfl
          try simp only [Act.put, List.setIfInBounds_toArray, List.set_cons_zero, List.set_cons_succ]
          refine wpAnyH_take (i := 7) (v := undef) (by simp only [List.getElem?_toArray, List.getElem?_cons_zero, List.getElem?_cons_succ]; rfl) (by kernel_rfl) (by kernel_rfl) (by kernel_rfl) (by exact fun _ _ _ h => h) (Or.inr ⟨by rfl, rfl⟩) (by assumption) ?_
          try simp only [Act.put, List.setIfInBounds_toArray, List.set_cons_zero, List.set_cons_succ]
          refine wpAnyH_take (i := 8) (v := undef) (by simp only [List.getElem?_toArray, List.getElem?_cons_zero, List.getElem?_cons_succ]; rfl) (by kernel_rfl) (by kernel_rfl) (by kernel_rfl) (by exact fun _ _ _ h => h) (Or.inr ⟨by rfl, rfl⟩) (by assumption) ?_
          try simp only [Act.put, List.setIfInBounds_toArray, List.set_cons_zero, List.set_cons_succ]
          refine wpAnyH_take (i := 9) (v := undef) (by simp only [List.getElem?_toArray, List.getElem?_cons_zero, List.getElem?_cons_succ]; rfl) (by kernel_rfl) (by kernel_rfl) (by kernel_rfl) (by exact fun _ _ _ h => h) (Or.inr ⟨by rfl, rfl⟩) (by assumption) ?_
          try simp only [Act.put, List.setIfInBounds_toArray, List.set_cons_zero, List.set_cons_succ]
          refine wpAnyH_take (i := 10) (v := undef) (by simp only [List.getElem?_toArray, List.getElem?_cons_zero, List.getElem?_cons_succ]; rfl) (by kernel_rfl) (by kernel_rfl) (by kernel_rfl) (by exact fun _ _ _ h => h) (Or.inr ⟨by rfl, rfl⟩) (by assumption) ?_
          try simp only [Act.put, List.setIfInBounds_toArray, List.set_cons_zero, List.set_cons_succ]
          refine wpAnyH_take (i := 11) (v := undef) (by simp only [List.getElem?_toArray, List.getElem?_cons_zero, List.getElem?_cons_succ]; rfl) (by kernel_rfl) (by kernel_rfl) (by kernel_rfl) (by exact fun _ _ _ h => h) (Or.inr ⟨by rfl, rfl⟩) (by assumption) ?_
          try simp only [Act.put, List.setIfInBounds_toArray, List.set_cons_zero, List.set_cons_succ]
          refine wpAnyH_take (i := 12) (v := undef) (by simp only [List.getElem?_toArray, List.getElem?_cons_zero, List.getElem?_cons_succ]; rfl) (by kernel_rfl) (by kernel_rfl) (by kernel_rfl) (by exact fun _ _ _ h => h) (Or.inr ⟨by rfl, rfl⟩) (by assumption) ?_
          try simp only [Act.put, List.setIfInBounds_toArray, List.set_cons_zero, List.set_cons_succ]
          refine wpAnyH_take (i := 13) (v := undef) (by simp only [List.getElem?_toArray, List.getElem?_cons_zero, List.getElem?_cons_succ]; rfl) (by kernel_rfl) (by kernel_rfl) (by kernel_rfl) (by exact fun _ _ _ h => h) (Or.inr ⟨by rfl, rfl⟩) (by assumption) ?_
          try simp only [Act.put, List.setIfInBounds_toArray, List.set_cons_zero, List.set_cons_succ]
          refine wpAnyH_take (i := 14) (v := undef) (by simp only [List.getElem?_toArray, List.getElem?_cons_zero, List.getElem?_cons_succ]; rfl) (by kernel_rfl) (by kernel_rfl) (by kernel_rfl) (by exact fun _ _ _ h => h) (Or.inr ⟨by rfl, rfl⟩) (by assumption) ?_
          try simp only [Act.put, List.setIfInBounds_toArray, List.set_cons_zero, List.set_cons_succ]
          refine wpAnyH_take (i := 15) (v := undef) (by simp only [List.getElem?_toArray, List.getElem?_cons_zero, List.getElem?_cons_succ]; rfl) (by kernel_rfl) (by kernel_rfl) (by kernel_rfl) (by exact fun _ _ _ h => h) (Or.inr ⟨by rfl, rfl⟩) (by assumption) ?_
          try simp only [Act.put, List.setIfInBounds_toArray, List.set_cons_zero, List.set_cons_succ]
          refine wpAnyH_take (i := 16) (v := undef) (by simp only [List.getElem?_toArray, List.getElem?_cons_zero, List.getElem?_cons_succ]; rfl) (by kernel_rfl) (by kernel_rfl) (by kernel_rfl) (by exact fun _ _ _ h => h) (Or.inr ⟨by rfl, rfl⟩) (by assumption) ?_
          try simp only [Act.put, List.setIfInBounds_toArray, List.set_cons_zero, List.set_cons_succ]
          refine wpAnyH_take (i := 17) (v := undef) (by simp only [List.getElem?_toArray, List.getElem?_cons_zero, List.getElem?_cons_succ]; rfl) (by kernel_rfl) (by kernel_rfl) (by kernel_rfl) (by exact fun _ _ _ h => h) (Or.inr ⟨by rfl, rfl⟩) (by assumption) ?_
          try simp only [Act.put, List.setIfInBounds_toArray, List.set_cons_zero, List.set_cons_succ]
          refine wpAnyH_take (i := 18) (v := undef) (by simp only [List.getElem?_toArray, List.getElem?_cons_zero, List.getElem?_cons_succ]; rfl) (by kernel_rfl) (by kernel_rfl) (by kernel_rfl) (by exact fun _ _ _ h => h) (Or.inr ⟨by rfl, rfl⟩) (by assumption) ?_
          try simp only [Act.put, List.setIfInBounds_toArray, List.set_cons_zero, List.set_cons_succ]
          refine wpAnyH_take (i := 19) (v := undef) (by simp only [List.getElem?_toArray, List.getElem?_cons_zero, List.getElem?_cons_succ]; rfl) (by kernel_rfl) (by kernel_rfl) (by kernel_rfl) (by exact fun _ _ _ h => h) (Or.inr ⟨by rfl, rfl⟩) (by assumption) ?_
          try simp only [Act.put, List.setIfInBounds_toArray, List.set_cons_zero, List.set_cons_succ]
          refine wpAnyH_take (i := 20) (v := undef) (by simp only [List.getElem?_toArray, List.getElem?_cons_zero, List.getElem?_cons_succ]; rfl) (by kernel_rfl) (by kernel_rfl) (by kernel_rfl) (by exact fun _ _ _ h => h) (Or.inr ⟨by rfl, rfl⟩) (by assumption) ?_
          try simp only [Act.put, List.setIfInBounds_toArray, List.set_cons_zero, List.set_cons_succ]
          refine wpAnyH_take (i := 21) (v := undef) (by simp only [List.getElem?_toArray, List.getElem?_cons_zero, List.getElem?_cons_succ]; rfl) (by kernel_rfl) (by kernel_rfl) (by kernel_rfl) (by exact fun _ _ _ h => h) (Or.inr ⟨by rfl, rfl⟩) (by assumption) ?_
          try simp only [Act.put, List.setIfInBounds_toArray, List.set_cons_zero, List.set_cons_succ]
          refine wpAnyH_take (i := 22) (v := ?v22b) (by simp only [List.getElem?_toArray, List.getElem?_cons_zero, List.getElem?_cons_succ]; rfl) (by kernel_rfl) (by kernel_rfl) (by kernel_rfl) (by exact fun _ _ _ h => h) (Or.inl ⟨by rfl, ?hy22b⟩) (by assumption) ?_
          case hy22b => intro w hSw; (try dsimp only at hSw); go_simp; try with_reducible rfl
          try simp only [Act.put, List.setIfInBounds_toArray, List.set_cons_zero, List.set_cons_succ]
          refine wpAnyH_done (by kernel_rfl) ?_ _
          have HBL := Lib.hid (HB.out.trans (hb1.mono HB.out.size))
          clear hb1
          go_wp2_with fail
          go_ret
          exact ⟨ret_int HE.out.symm, HBL.out⟩
        · have HN1 := Lib.hid (HNext.out (badAt_zero HX.out hP))
          have HP := Lib.hid hP; clear hP
          have HPc := Lib.hid (rPlace_is HP.out)
          have HPP : Hid (∀ w, Calls Try.prog 53 #[.agg #[.int .i64 x0, .int .i64 x1, .int .i64 x2, .int .i64 x3, .int .i64 x4]] w fun e w' => e = .returned (.bool true) ∧ Below w.heap.size w w') := HPc
          clear HPc
          go_wp2_with fail
          refine wp_region_held_drew (S := (fun w' => w'.cell? ⟨b, off, none⟩ = some (.int .i64 x0) ∧ w'.cell? ⟨b, off + 1, none⟩ = some (.int .i64 x1) ∧ w'.cell? ⟨b, off + 2, none⟩ = some (.int .i64 x2) ∧ w'.cell? ⟨b, off + 3, none⟩ = some (.int .i64 x3) ∧ w'.cell? ⟨b, off + 4, none⟩ = some (.int .i64 x4))) (by kernel_rfl) ⟨c0, c1, c2, c3, c4⟩ (fun hHeld => ?_)
          refine wpAnyH_take (i := 0) (v := ?v0c) (by simp only [List.getElem?_toArray, List.getElem?_cons_zero]; rfl) (by kernel_rfl) (by kernel_rfl) (by kernel_rfl) (by exact fun _ _ _ h => h) (Or.inl ⟨by rfl, ?hy0c⟩) (by assumption) ?_
          case hy0c => intro w hSw; (try dsimp only at hSw); go_simp; try with_reducible rfl
          try simp only [Act.put, List.setIfInBounds_toArray, List.set_cons_zero, List.set_cons_succ]
          refine wpAnyH_take (i := 1) (v := ?v1c) (by simp only [List.getElem?_toArray, List.getElem?_cons_zero, List.getElem?_cons_succ]; rfl) (by kernel_rfl) (by kernel_rfl) (by kernel_rfl) (by exact fun _ _ _ h => h) (Or.inl ⟨by rfl, ?hy1c⟩) (by assumption) ?_
          case hy1c => intro w hSw; (try dsimp only at hSw); go_simp; try with_reducible rfl
          try simp only [Act.put, List.setIfInBounds_toArray, List.set_cons_zero, List.set_cons_succ]
          refine wpAnyH_take (i := 2) (v := ?v2c) (by simp only [List.getElem?_toArray, List.getElem?_cons_zero, List.getElem?_cons_succ]; rfl) (by kernel_rfl) (by kernel_rfl) (by kernel_rfl) (by exact fun _ _ _ h => h) (Or.inl ⟨by rfl, ?hy2c⟩) (by assumption) ?_
          case hy2c => intro w hSw; (try dsimp only at hSw); go_simp; try with_reducible rfl
          try simp only [Act.put, List.setIfInBounds_toArray, List.set_cons_zero, List.set_cons_succ]
          refine wpAnyH_take (i := 3) (v := ?v3c) (by simp only [List.getElem?_toArray, List.getElem?_cons_zero, List.getElem?_cons_succ]; rfl) (by kernel_rfl) (by kernel_rfl) (by kernel_rfl) (by exact fun _ _ _ h => h) (Or.inl ⟨by rfl, ?hy3c⟩) (by assumption) ?_
          case hy3c => intro w hSw; (try dsimp only at hSw); go_simp; try with_reducible rfl
          try simp only [Act.put, List.setIfInBounds_toArray, List.set_cons_zero, List.set_cons_succ]
          refine wpAnyH_ready (rs := [4]) (by kernel_rfl) (by simp) ?_
          refine AllReadyH.cons (by simp only [List.getElem?_toArray, List.getElem?_cons_zero, List.getElem?_cons_succ]; rfl) (fun K hK => ?_) AllReadyH.nil
          go_simp
          go_at_call 53; refine (HPP.out _).mono ?_; rintro e w1 ⟨rfl, hb1⟩; have hb1 := below_of_drew hb1
          refine hK.out _ _ ⟨keep c0 hb1, keep c1 hb1, keep c2 hb1, keep c3 hb1, keep c4 hb1⟩ (fun hHeld2 => ?_)
          clear hK K
          try simp only [Act.put, List.setIfInBounds_toArray, List.set_cons_zero, List.set_cons_succ]
          refine wpAnyH_take (i := 5) (v := ?v5c) (by simp only [List.getElem?_toArray, List.getElem?_cons_zero, List.getElem?_cons_succ]; rfl) (by kernel_rfl) (by kernel_rfl) (by kernel_rfl) (by exact fun _ _ _ h => h) (Or.inl ⟨by rfl, ?hy5c⟩) (by assumption) ?_
          case hy5c => intro w hSw; (try dsimp only at hSw); go_simp; try with_reducible rfl
          try simp only [Act.put, List.setIfInBounds_toArray, List.set_cons_zero, List.set_cons_succ]
          refine wpAnyH_take (i := 6) (v := ?v6c) (by simp only [List.getElem?_toArray, List.getElem?_cons_zero, List.getElem?_cons_succ]; rfl) (by kernel_rfl) (by kernel_rfl) (by kernel_rfl) (by exact fun _ _ _ h => h) (Or.inl ⟨by rfl, ?hy6c⟩) (by assumption) ?_
          case hy6c => intro w hSw; (try dsimp only at hSw); go_simp; try with_reducible rfl
          try simp only [Act.put, List.setIfInBounds_toArray, List.set_cons_zero, List.set_cons_succ]
          refine wpAnyH_take (i := 7) (v := ?v7c) (by simp only [List.getElem?_toArray, List.getElem?_cons_zero, List.getElem?_cons_succ]; rfl) (by kernel_rfl) (by kernel_rfl) (by kernel_rfl) (by exact fun _ _ _ h => h) (Or.inl ⟨by rfl, ?hy7c⟩) (by assumption) ?_
          case hy7c => intro w hSw; (try dsimp only at hSw); go_simp; try with_reducible rfl
          try simp only [Act.put, List.setIfInBounds_toArray, List.set_cons_zero, List.set_cons_succ]
          refine wpAnyH_take (i := 8) (v := ?v8c) (by simp only [List.getElem?_toArray, List.getElem?_cons_zero, List.getElem?_cons_succ]; rfl) (by kernel_rfl) (by kernel_rfl) (by kernel_rfl) (by exact fun _ _ _ h => h) (Or.inl ⟨by rfl, ?hy8c⟩) (by assumption) ?_
          case hy8c => intro w hSw; (try dsimp only at hSw); go_simp; try with_reducible rfl
          try simp only [Act.put, List.setIfInBounds_toArray, List.set_cons_zero, List.set_cons_succ]
          refine wpAnyH_take (i := 9) (v := ?v9c) (by simp only [List.getElem?_toArray, List.getElem?_cons_zero, List.getElem?_cons_succ]; rfl) (by kernel_rfl) (by kernel_rfl) (by kernel_rfl) (by exact fun _ _ _ h => h) (Or.inl ⟨by rfl, ?hy9c⟩) (by assumption) ?_
          case hy9c => intro w hSw; (try dsimp only at hSw); go_simp; try with_reducible rfl
          try simp only [Act.put, List.setIfInBounds_toArray, List.set_cons_zero, List.set_cons_succ]
          refine wpAnyH_take (i := 10) (v := undef) (by simp only [List.getElem?_toArray, List.getElem?_cons_zero, List.getElem?_cons_succ]; rfl) (by kernel_rfl) (by kernel_rfl) (by kernel_rfl) (by exact fun _ _ _ h => h) (Or.inr ⟨by rfl, rfl⟩) (by assumption) ?_
          try simp only [Act.put, List.setIfInBounds_toArray, List.set_cons_zero, List.set_cons_succ]
          refine wpAnyH_take (i := 11) (v := undef) (by simp only [List.getElem?_toArray, List.getElem?_cons_zero, List.getElem?_cons_succ]; rfl) (by kernel_rfl) (by kernel_rfl) (by kernel_rfl) (by exact fun _ _ _ h => h) (Or.inr ⟨by rfl, rfl⟩) (by assumption) ?_
          try simp only [Act.put, List.setIfInBounds_toArray, List.set_cons_zero, List.set_cons_succ]
          refine wpAnyH_take (i := 12) (v := undef) (by simp only [List.getElem?_toArray, List.getElem?_cons_zero, List.getElem?_cons_succ]; rfl) (by kernel_rfl) (by kernel_rfl) (by kernel_rfl) (by exact fun _ _ _ h => h) (Or.inr ⟨by rfl, rfl⟩) (by assumption) ?_
          try simp only [Act.put, List.setIfInBounds_toArray, List.set_cons_zero, List.set_cons_succ]
          refine wpAnyH_take (i := 13) (v := undef) (by simp only [List.getElem?_toArray, List.getElem?_cons_zero, List.getElem?_cons_succ]; rfl) (by kernel_rfl) (by kernel_rfl) (by kernel_rfl) (by exact fun _ _ _ h => h) (Or.inr ⟨by rfl, rfl⟩) (by assumption) ?_
          try simp only [Act.put, List.setIfInBounds_toArray, List.set_cons_zero, List.set_cons_succ]
          refine wpAnyH_take (i := 14) (v := undef) (by simp only [List.getElem?_toArray, List.getElem?_cons_zero, List.getElem?_cons_succ]; rfl) (by kernel_rfl) (by kernel_rfl) (by kernel_rfl) (by exact fun _ _ _ h => h) (Or.inr ⟨by rfl, rfl⟩) (by assumption) ?_
          try simp only [Act.put, List.setIfInBounds_toArray, List.set_cons_zero, List.set_cons_succ]
          refine wpAnyH_take (i := 15) (v := undef) (by simp only [List.getElem?_toArray, List.getElem?_cons_zero, List.getElem?_cons_succ]; rfl) (by kernel_rfl) (by kernel_rfl) (by kernel_rfl) (by exact fun _ _ _ h => h) (Or.inr ⟨by rfl, rfl⟩) (by assumption) ?_
          try simp only [Act.put, List.setIfInBounds_toArray, List.set_cons_zero, List.set_cons_succ]
          refine wpAnyH_take (i := 16) (v := undef) (by simp only [List.getElem?_toArray, List.getElem?_cons_zero, List.getElem?_cons_succ]; rfl) (by kernel_rfl) (by kernel_rfl) (by kernel_rfl) (by exact fun _ _ _ h => h) (Or.inr ⟨by rfl, rfl⟩) (by assumption) ?_
          try simp only [Act.put, List.setIfInBounds_toArray, List.set_cons_zero, List.set_cons_succ]
          refine wpAnyH_take (i := 17) (v := undef) (by simp only [List.getElem?_toArray, List.getElem?_cons_zero, List.getElem?_cons_succ]; rfl) (by kernel_rfl) (by kernel_rfl) (by kernel_rfl) (by exact fun _ _ _ h => h) (Or.inr ⟨by rfl, rfl⟩) (by assumption) ?_
          try simp only [Act.put, List.setIfInBounds_toArray, List.set_cons_zero, List.set_cons_succ]
          refine wpAnyH_take (i := 18) (v := undef) (by simp only [List.getElem?_toArray, List.getElem?_cons_zero, List.getElem?_cons_succ]; rfl) (by kernel_rfl) (by kernel_rfl) (by kernel_rfl) (by exact fun _ _ _ h => h) (Or.inr ⟨by rfl, rfl⟩) (by assumption) ?_
          try simp only [Act.put, List.setIfInBounds_toArray, List.set_cons_zero, List.set_cons_succ]
          refine wpAnyH_take (i := 19) (v := undef) (by simp only [List.getElem?_toArray, List.getElem?_cons_zero, List.getElem?_cons_succ]; rfl) (by kernel_rfl) (by kernel_rfl) (by kernel_rfl) (by exact fun _ _ _ h => h) (Or.inr ⟨by rfl, rfl⟩) (by assumption) ?_
          try simp only [Act.put, List.setIfInBounds_toArray, List.set_cons_zero, List.set_cons_succ]
          refine wpAnyH_take (i := 20) (v := undef) (by simp only [List.getElem?_toArray, List.getElem?_cons_zero, List.getElem?_cons_succ]; rfl) (by kernel_rfl) (by kernel_rfl) (by kernel_rfl) (by exact fun _ _ _ h => h) (Or.inr ⟨by rfl, rfl⟩) (by assumption) ?_
          try simp only [Act.put, List.setIfInBounds_toArray, List.set_cons_zero, List.set_cons_succ]
          refine wpAnyH_take (i := 21) (v := ?v21c) (by simp only [List.getElem?_toArray, List.getElem?_cons_zero, List.getElem?_cons_succ]; rfl) (by kernel_rfl) (by kernel_rfl) (by kernel_rfl) (by exact fun _ _ _ h => h) (Or.inl ⟨by rfl, ?hy21c⟩) (by assumption) ?_
          case hy21c => intro w hSw; (try dsimp only at hSw); go_simp; try with_reducible rfl
          try simp only [Act.put, List.setIfInBounds_toArray, List.set_cons_zero, List.set_cons_succ]
          refine wpAnyH_take (i := 22) (v := ?v22c) (by simp only [List.getElem?_toArray, List.getElem?_cons_zero, List.getElem?_cons_succ]; rfl) (by kernel_rfl) (by kernel_rfl) (by kernel_rfl) (by exact fun _ _ _ h => h) (Or.inl ⟨by rfl, ?hy22c⟩) (by assumption) ?_
          case hy22c => intro w hSw; (try dsimp only at hSw); go_simp; try with_reducible rfl
          try simp only [Act.put, List.setIfInBounds_toArray, List.set_cons_zero, List.set_cons_succ]
          refine wpAnyH_done (by kernel_rfl) ?_ _
          have HBL := Lib.hid (HB.out.trans (hb1.mono HB.out.size))
          clear hb1
          go_wp2_with fail
          go_roundw
          case rel => exact ⟨1, by omega, by go_num, HN1.out, HBL.out⟩
          case measure => simp [intOf]; omega
      · obtain ⟨m, rfl⟩ : ∃ m, k = m + 1 := ⟨k - 1, by omega⟩
        obtain ⟨b', off', hab, hd⟩ := HI.out.below HB.out m (by omega)
        simp only [Option.some.injEq, Addr.mk.injEq, and_true] at hab
        obtain ⟨rfl, rfl⟩ := hab
        generalize hx : at' l (m + 1) = x at *
        generalize hy : at' l m = y at *
        have HX := Lib.hid hx; clear hx
        have HY := Lib.hid hy; clear hy
        obtain ⟨x0, x1, x2, x3, x4⟩ := x
        obtain ⟨y0, y1, y2, y3, y4⟩ := y
        obtain ⟨c0, c1, c2, c3, c4⟩ := hc
        obtain ⟨d0, d1, d2, d3, d4⟩ := hd
        simp only at c0 c1 c2 c3 c4 d0 d1 d2 d3 d4
        have hm1 : (0 : Int) < (m : Int) + 1 := by omega
        have hm2 : (0 : Int) ≤ (m : Int) + 1 := by omega
        have hm0 : (0 : Int) ≤ (m : Int) := by omega
        have hml : (m : Int) < l.length := by omega
        have hmn : m < l.length := by omega
        have hmi : (m : Int) + 1 < l.length := by omega
        clear HHit HOk HBad HN
        cases hP : isPl ⟨x0, x1, x2, x3, x4⟩
        · have HE := Lib.hid (HBk.out (badAt_no HX.out hP))
          have HP := Lib.hid hP; clear hP
          have HPc := Lib.hid (rPlace_is HP.out)
          have HPP : Hid (∀ w, Calls Try.prog 53 #[.agg #[.int .i64 x0, .int .i64 x1, .int .i64 x2, .int .i64 x3, .int .i64 x4]] w fun e w' => e = .returned (.bool false) ∧ Below w.heap.size w w') := HPc
          clear HPc
          go_wp2_with fail
          refine wp_region_held_drew (S := (fun w' => w'.cell? ⟨b, off + (m + 1) * 5, none⟩ = some (.int .i64 x0) ∧ w'.cell? ⟨b, off + (m + 1) * 5 + 1, none⟩ = some (.int .i64 x1) ∧ w'.cell? ⟨b, off + (m + 1) * 5 + 2, none⟩ = some (.int .i64 x2) ∧ w'.cell? ⟨b, off + (m + 1) * 5 + 3, none⟩ = some (.int .i64 x3) ∧ w'.cell? ⟨b, off + (m + 1) * 5 + 4, none⟩ = some (.int .i64 x4))) (by kernel_rfl) ⟨c0, c1, c2, c3, c4⟩ (fun hHeld => ?_)
          refine wpAnyH_take (i := 0) (v := ?v0d) (by simp only [List.getElem?_toArray, List.getElem?_cons_zero]; rfl) (by kernel_rfl) (by kernel_rfl) (by kernel_rfl) (by exact fun _ _ _ h => h) (Or.inl ⟨by rfl, ?hy0d⟩) (by assumption) ?_
          case hy0d => intro w hSw; (try dsimp only at hSw); go_simp; try with_reducible rfl
          try simp only [Act.put, List.setIfInBounds_toArray, List.set_cons_zero, List.set_cons_succ]
          refine wpAnyH_take (i := 1) (v := ?v1d) (by simp only [List.getElem?_toArray, List.getElem?_cons_zero, List.getElem?_cons_succ]; rfl) (by kernel_rfl) (by kernel_rfl) (by kernel_rfl) (by exact fun _ _ _ h => h) (Or.inl ⟨by rfl, ?hy1d⟩) (by assumption) ?_
          case hy1d => intro w hSw; (try dsimp only at hSw); go_simp; try with_reducible rfl
          try simp only [Act.put, List.setIfInBounds_toArray, List.set_cons_zero, List.set_cons_succ]
          refine wpAnyH_take (i := 2) (v := ?v2d) (by simp only [List.getElem?_toArray, List.getElem?_cons_zero, List.getElem?_cons_succ]; rfl) (by kernel_rfl) (by kernel_rfl) (by kernel_rfl) (by exact fun _ _ _ h => h) (Or.inl ⟨by rfl, ?hy2d⟩) (by assumption) ?_
          case hy2d => intro w hSw; (try dsimp only at hSw); go_simp; try with_reducible rfl
          try simp only [Act.put, List.setIfInBounds_toArray, List.set_cons_zero, List.set_cons_succ]
          refine wpAnyH_take (i := 3) (v := ?v3d) (by simp only [List.getElem?_toArray, List.getElem?_cons_zero, List.getElem?_cons_succ]; rfl) (by kernel_rfl) (by kernel_rfl) (by kernel_rfl) (by exact fun _ _ _ h => h) (Or.inl ⟨by rfl, ?hy3d⟩) (by assumption) ?_
          case hy3d => intro w hSw; (try dsimp only at hSw); go_simp; try with_reducible rfl
          try simp only [Act.put, List.setIfInBounds_toArray, List.set_cons_zero, List.set_cons_succ]
          refine wpAnyH_ready (rs := [4]) (by kernel_rfl) (by simp) ?_
          refine AllReadyH.cons (by simp only [List.getElem?_toArray, List.getElem?_cons_zero, List.getElem?_cons_succ]; rfl) (fun K hK => ?_) AllReadyH.nil
          go_simp
          go_at_call 53; refine (HPP.out _).mono ?_; rintro e w1 ⟨rfl, hb1⟩; have hb1 := below_of_drew hb1
          refine hK.out _ _ ⟨keep c0 hb1, keep c1 hb1, keep c2 hb1, keep c3 hb1, keep c4 hb1⟩ (fun hHeld2 => ?_)
          clear hK K
          try simp only [Act.put, List.setIfInBounds_toArray, List.set_cons_zero, List.set_cons_succ]
          refine wpAnyH_take (i := 5) (v := ?v5d) (by simp only [List.getElem?_toArray, List.getElem?_cons_zero, List.getElem?_cons_succ]; rfl) (by kernel_rfl) (by kernel_rfl) (by kernel_rfl) (by exact fun _ _ _ h => h) (Or.inl ⟨by rfl, ?hy5d⟩) (by assumption) ?_
          case hy5d => intro w hSw; (try dsimp only at hSw); go_simp; try with_reducible rfl
          try simp only [Act.put, List.setIfInBounds_toArray, List.set_cons_zero, List.set_cons_succ]
          refine wpAnyH_take (i := 6) (v := ?v6d) (by simp only [List.getElem?_toArray, List.getElem?_cons_zero, List.getElem?_cons_succ]; rfl) (by kernel_rfl) (by kernel_rfl) (by kernel_rfl) (by exact fun _ _ _ h => h) (Or.inl ⟨by rfl, ?hy6d⟩) (by assumption) ?_
          case hy6d => intro w hSw; (try dsimp only at hSw); go_simp; try with_reducible rfl
          try simp only [Act.put, List.setIfInBounds_toArray, List.set_cons_zero, List.set_cons_succ]
          refine wpAnyH_take (i := 7) (v := undef) (by simp only [List.getElem?_toArray, List.getElem?_cons_zero, List.getElem?_cons_succ]; rfl) (by kernel_rfl) (by kernel_rfl) (by kernel_rfl) (by exact fun _ _ _ h => h) (Or.inr ⟨by rfl, rfl⟩) (by assumption) ?_
          try simp only [Act.put, List.setIfInBounds_toArray, List.set_cons_zero, List.set_cons_succ]
          refine wpAnyH_take (i := 8) (v := undef) (by simp only [List.getElem?_toArray, List.getElem?_cons_zero, List.getElem?_cons_succ]; rfl) (by kernel_rfl) (by kernel_rfl) (by kernel_rfl) (by exact fun _ _ _ h => h) (Or.inr ⟨by rfl, rfl⟩) (by assumption) ?_
          try simp only [Act.put, List.setIfInBounds_toArray, List.set_cons_zero, List.set_cons_succ]
          refine wpAnyH_take (i := 9) (v := undef) (by simp only [List.getElem?_toArray, List.getElem?_cons_zero, List.getElem?_cons_succ]; rfl) (by kernel_rfl) (by kernel_rfl) (by kernel_rfl) (by exact fun _ _ _ h => h) (Or.inr ⟨by rfl, rfl⟩) (by assumption) ?_
          try simp only [Act.put, List.setIfInBounds_toArray, List.set_cons_zero, List.set_cons_succ]
          refine wpAnyH_take (i := 10) (v := undef) (by simp only [List.getElem?_toArray, List.getElem?_cons_zero, List.getElem?_cons_succ]; rfl) (by kernel_rfl) (by kernel_rfl) (by kernel_rfl) (by exact fun _ _ _ h => h) (Or.inr ⟨by rfl, rfl⟩) (by assumption) ?_
          try simp only [Act.put, List.setIfInBounds_toArray, List.set_cons_zero, List.set_cons_succ]
          refine wpAnyH_take (i := 11) (v := undef) (by simp only [List.getElem?_toArray, List.getElem?_cons_zero, List.getElem?_cons_succ]; rfl) (by kernel_rfl) (by kernel_rfl) (by kernel_rfl) (by exact fun _ _ _ h => h) (Or.inr ⟨by rfl, rfl⟩) (by assumption) ?_
          try simp only [Act.put, List.setIfInBounds_toArray, List.set_cons_zero, List.set_cons_succ]
          refine wpAnyH_take (i := 12) (v := undef) (by simp only [List.getElem?_toArray, List.getElem?_cons_zero, List.getElem?_cons_succ]; rfl) (by kernel_rfl) (by kernel_rfl) (by kernel_rfl) (by exact fun _ _ _ h => h) (Or.inr ⟨by rfl, rfl⟩) (by assumption) ?_
          try simp only [Act.put, List.setIfInBounds_toArray, List.set_cons_zero, List.set_cons_succ]
          refine wpAnyH_take (i := 13) (v := undef) (by simp only [List.getElem?_toArray, List.getElem?_cons_zero, List.getElem?_cons_succ]; rfl) (by kernel_rfl) (by kernel_rfl) (by kernel_rfl) (by exact fun _ _ _ h => h) (Or.inr ⟨by rfl, rfl⟩) (by assumption) ?_
          try simp only [Act.put, List.setIfInBounds_toArray, List.set_cons_zero, List.set_cons_succ]
          refine wpAnyH_take (i := 14) (v := undef) (by simp only [List.getElem?_toArray, List.getElem?_cons_zero, List.getElem?_cons_succ]; rfl) (by kernel_rfl) (by kernel_rfl) (by kernel_rfl) (by exact fun _ _ _ h => h) (Or.inr ⟨by rfl, rfl⟩) (by assumption) ?_
          try simp only [Act.put, List.setIfInBounds_toArray, List.set_cons_zero, List.set_cons_succ]
          refine wpAnyH_take (i := 15) (v := undef) (by simp only [List.getElem?_toArray, List.getElem?_cons_zero, List.getElem?_cons_succ]; rfl) (by kernel_rfl) (by kernel_rfl) (by kernel_rfl) (by exact fun _ _ _ h => h) (Or.inr ⟨by rfl, rfl⟩) (by assumption) ?_
          try simp only [Act.put, List.setIfInBounds_toArray, List.set_cons_zero, List.set_cons_succ]
          refine wpAnyH_take (i := 16) (v := undef) (by simp only [List.getElem?_toArray, List.getElem?_cons_zero, List.getElem?_cons_succ]; rfl) (by kernel_rfl) (by kernel_rfl) (by kernel_rfl) (by exact fun _ _ _ h => h) (Or.inr ⟨by rfl, rfl⟩) (by assumption) ?_
          try simp only [Act.put, List.setIfInBounds_toArray, List.set_cons_zero, List.set_cons_succ]
          refine wpAnyH_take (i := 17) (v := undef) (by simp only [List.getElem?_toArray, List.getElem?_cons_zero, List.getElem?_cons_succ]; rfl) (by kernel_rfl) (by kernel_rfl) (by kernel_rfl) (by exact fun _ _ _ h => h) (Or.inr ⟨by rfl, rfl⟩) (by assumption) ?_
          try simp only [Act.put, List.setIfInBounds_toArray, List.set_cons_zero, List.set_cons_succ]
          refine wpAnyH_take (i := 18) (v := undef) (by simp only [List.getElem?_toArray, List.getElem?_cons_zero, List.getElem?_cons_succ]; rfl) (by kernel_rfl) (by kernel_rfl) (by kernel_rfl) (by exact fun _ _ _ h => h) (Or.inr ⟨by rfl, rfl⟩) (by assumption) ?_
          try simp only [Act.put, List.setIfInBounds_toArray, List.set_cons_zero, List.set_cons_succ]
          refine wpAnyH_take (i := 19) (v := undef) (by simp only [List.getElem?_toArray, List.getElem?_cons_zero, List.getElem?_cons_succ]; rfl) (by kernel_rfl) (by kernel_rfl) (by kernel_rfl) (by exact fun _ _ _ h => h) (Or.inr ⟨by rfl, rfl⟩) (by assumption) ?_
          try simp only [Act.put, List.setIfInBounds_toArray, List.set_cons_zero, List.set_cons_succ]
          refine wpAnyH_take (i := 20) (v := undef) (by simp only [List.getElem?_toArray, List.getElem?_cons_zero, List.getElem?_cons_succ]; rfl) (by kernel_rfl) (by kernel_rfl) (by kernel_rfl) (by exact fun _ _ _ h => h) (Or.inr ⟨by rfl, rfl⟩) (by assumption) ?_
          try simp only [Act.put, List.setIfInBounds_toArray, List.set_cons_zero, List.set_cons_succ]
          refine wpAnyH_take (i := 21) (v := undef) (by simp only [List.getElem?_toArray, List.getElem?_cons_zero, List.getElem?_cons_succ]; rfl) (by kernel_rfl) (by kernel_rfl) (by kernel_rfl) (by exact fun _ _ _ h => h) (Or.inr ⟨by rfl, rfl⟩) (by assumption) ?_
          try simp only [Act.put, List.setIfInBounds_toArray, List.set_cons_zero, List.set_cons_succ]
          refine wpAnyH_take (i := 22) (v := ?v22d) (by simp only [List.getElem?_toArray, List.getElem?_cons_zero, List.getElem?_cons_succ]; rfl) (by kernel_rfl) (by kernel_rfl) (by kernel_rfl) (by exact fun _ _ _ h => h) (Or.inl ⟨by rfl, ?hy22d⟩) (by assumption) ?_
          case hy22d => intro w hSw; (try dsimp only at hSw); go_simp; try with_reducible rfl
          try simp only [Act.put, List.setIfInBounds_toArray, List.set_cons_zero, List.set_cons_succ]
          refine wpAnyH_done (by kernel_rfl) ?_ _
          have HBL := Lib.hid (HB.out.trans (hb1.mono HB.out.size))
          clear hb1
          go_wp2_with fail
          go_ret
          exact ⟨ret_int HE.out.symm, HBL.out⟩
        · have hbs := badAt_succ' HX.out HY.out hP
          have HP := Lib.hid hP; clear hP
          have hsub : IntKind.i64.wrap ((m : Int) + 1 - 1) = (m : Int) := by rw [Int.add_sub_cancel]; exact IntWalk.i64_in _ (by omega)
          have hsub2 : IntKind.i64.wrap (m : Int) = (m : Int) := IntWalk.i64_in _ (by omega)
          cases hlt2 : ltP ⟨y0, y1, y2, y3, y4⟩ ⟨x0, x1, x2, x3, x4⟩
          · have HE := Lib.hid (HBk.out (by rw [hbs, hlt2]; rfl))
            have HCM := Lib.hid hlt2
            clear hbs hlt2
            have HPc := Lib.hid (rPlace_is HP.out)
            have HPP : Hid (∀ w, Calls Try.prog 53 #[.agg #[.int .i64 x0, .int .i64 x1, .int .i64 x2, .int .i64 x3, .int .i64 x4]] w fun e w' => e = .returned (.bool true) ∧ Below w.heap.size w w') := HPc
            clear HPc
            have HCc := Lib.hid (before_is HCM.out)
            have HCC : Hid (∀ w, Calls Try.prog 54 #[.agg #[.int .i64 y0, .int .i64 y1, .int .i64 y2, .int .i64 y3, .int .i64 y4], .agg #[.int .i64 x0, .int .i64 x1, .int .i64 x2, .int .i64 x3, .int .i64 x4]] w fun e w' => e = .returned (.bool false) ∧ Below w.heap.size w w') := HCc
            clear HCc
            go_wp2_with fail
            go_region_held3 (fun w' => w'.cell? ⟨b, off + (m + 1) * 5, none⟩ = some (.int .i64 x0) ∧ w'.cell? ⟨b, off + (m + 1) * 5 + 1, none⟩ = some (.int .i64 x1) ∧ w'.cell? ⟨b, off + (m + 1) * 5 + 2, none⟩ = some (.int .i64 x2) ∧ w'.cell? ⟨b, off + (m + 1) * 5 + 3, none⟩ = some (.int .i64 x3) ∧ w'.cell? ⟨b, off + (m + 1) * 5 + 4, none⟩ = some (.int .i64 x4) ∧ w'.cell? ⟨b, off + m * 5, none⟩ = some (.int .i64 y0) ∧ w'.cell? ⟨b, off + m * 5 + 1, none⟩ = some (.int .i64 y1) ∧ w'.cell? ⟨b, off + m * 5 + 2, none⟩ = some (.int .i64 y2) ∧ w'.cell? ⟨b, off + m * 5 + 3, none⟩ = some (.int .i64 y3) ∧ w'.cell? ⟨b, off + m * 5 + 4, none⟩ = some (.int .i64 y4))
              (first | exact ⟨c0, c1, c2, c3, c4, d0, d1, d2, d3, d4⟩ | exact ⟨keep c0 (by assumption), keep c1 (by assumption), keep c2 (by assumption), keep c3 (by assumption), keep c4 (by assumption), keep d0 (by assumption), keep d1 (by assumption), keep d2 (by assumption), keep d3 (by assumption), keep d4 (by assumption)⟩)
              (first | (go_at_call 53; refine (HPP.out _).mono ?_; rintro e w1 ⟨rfl, hb1⟩; have hb1 := below_of_drew hb1) | (go_at_call 54; refine (HCC.out _).mono ?_; rintro e w2 ⟨rfl, hb2⟩; have hb2 := Below.trans hb1 (hb2.mono hb1.size)))
            have HBL := Lib.hid (HB.out.trans (hb2.mono HB.out.size))
            clear hb1 hb2
            go_wp2_with fail
            go_ret
            exact ⟨ret_int HE.out.symm, HBL.out⟩
          · have HN1 := Lib.hid (HNext.out (by rw [hbs, hlt2]; rfl))
            have HCM := Lib.hid hlt2
            clear hbs hlt2
            have HPc := Lib.hid (rPlace_is HP.out)
            have HPP : Hid (∀ w, Calls Try.prog 53 #[.agg #[.int .i64 x0, .int .i64 x1, .int .i64 x2, .int .i64 x3, .int .i64 x4]] w fun e w' => e = .returned (.bool true) ∧ Below w.heap.size w w') := HPc
            clear HPc
            have HCc := Lib.hid (before_is HCM.out)
            have HCC : Hid (∀ w, Calls Try.prog 54 #[.agg #[.int .i64 y0, .int .i64 y1, .int .i64 y2, .int .i64 y3, .int .i64 y4], .agg #[.int .i64 x0, .int .i64 x1, .int .i64 x2, .int .i64 x3, .int .i64 x4]] w fun e w' => e = .returned (.bool true) ∧ Below w.heap.size w w') := HCc
            clear HCc
            go_wp2_with fail
            go_region_held3 (fun w' => w'.cell? ⟨b, off + (m + 1) * 5, none⟩ = some (.int .i64 x0) ∧ w'.cell? ⟨b, off + (m + 1) * 5 + 1, none⟩ = some (.int .i64 x1) ∧ w'.cell? ⟨b, off + (m + 1) * 5 + 2, none⟩ = some (.int .i64 x2) ∧ w'.cell? ⟨b, off + (m + 1) * 5 + 3, none⟩ = some (.int .i64 x3) ∧ w'.cell? ⟨b, off + (m + 1) * 5 + 4, none⟩ = some (.int .i64 x4) ∧ w'.cell? ⟨b, off + m * 5, none⟩ = some (.int .i64 y0) ∧ w'.cell? ⟨b, off + m * 5 + 1, none⟩ = some (.int .i64 y1) ∧ w'.cell? ⟨b, off + m * 5 + 2, none⟩ = some (.int .i64 y2) ∧ w'.cell? ⟨b, off + m * 5 + 3, none⟩ = some (.int .i64 y3) ∧ w'.cell? ⟨b, off + m * 5 + 4, none⟩ = some (.int .i64 y4))
              (first | exact ⟨c0, c1, c2, c3, c4, d0, d1, d2, d3, d4⟩ | exact ⟨keep c0 (by assumption), keep c1 (by assumption), keep c2 (by assumption), keep c3 (by assumption), keep c4 (by assumption), keep d0 (by assumption), keep d1 (by assumption), keep d2 (by assumption), keep d3 (by assumption), keep d4 (by assumption)⟩)
              (first | (go_at_call 53; refine (HPP.out _).mono ?_; rintro e w1 ⟨rfl, hb1⟩; have hb1 := below_of_drew hb1) | (go_at_call 54; refine (HCC.out _).mono ?_; rintro e w2 ⟨rfl, hb2⟩; have hb2 := Below.trans hb1 (hb2.mono hb1.size)))
            have HBL := Lib.hid (HB.out.trans (hb2.mono HB.out.size))
            clear hb1 hb2
            go_wp2_with fail
            go_roundw
            case rel => exact ⟨m + 1 + 1, by omega, by go_num, HN1.out, HBL.out⟩
            case measure => simp [intOf]; omega
    · obtain rfl : k = l.length := by omega
      have hki : ¬ (l.length : Int) < (l.length : Int) := by omega
      have HHit := Lib.hid (HHit.out HN.out)
      have HOk := Lib.hid (HOk.out HN.out)
      clear HBad
      go_wp2_with fail
      go_loopw [4] (fun i ws => ∃ k : Nat, k ≤ l.length ∧ i = .int .i64 k ∧ (∀ j, j < k → hitAt l j = false) ∧ Below w.heap.size w ws) (fun i _ => l.length - (intOf i).toNat)
      case atStart => exact ⟨0, Nat.zero_le _, rfl, fun j hj => absurd hj (Nat.not_lt_zero _), HB.out⟩
      case round =>
        obtain ⟨k, hk, rfl, hny2, hb2⟩ := hrel
        have HB2 := Lib.hid hb2; have HN2 := Lib.hid hny2; clear hny2 hb2
        by_cases hlt : k < l.length
        · have HNext : Hid (hitAt l k = false → ∀ j, j < k + 1 → hitAt l j = false) := Lib.hid fun h j hj => by
            by_cases e : j = k
            · rw [e]; exact h
            · exact HN2.out j (by omega)
          have HHk := Lib.hid (HHit.out k hlt)
          have hki : (k : Int) < l.length := by omega
          go_wp2_with fail
          go_loopw [5] (fun i ws => ∃ j : Nat, j ≤ k ∧ i = .int .i64 j ∧ (∀ i, i < j → clash (at' l k) (at' l i) = false) ∧ Below w.heap.size w ws) (fun i _ => k - (intOf i).toNat)
          case atStart => exact ⟨0, Nat.zero_le _, rfl, fun j hj => absurd hj (Nat.not_lt_zero _), HB2.out⟩
          case round =>
            obtain ⟨j, hj, rfl, hny3, hb3⟩ := hrel
            have HB3 := Lib.hid hb3; have HN3 := Lib.hid hny3; clear hny3 hb3
            by_cases hjk : j < k
            · obtain ⟨b, off, rfl, hc⟩ := HI.out.below HB3.out k hlt
              obtain ⟨b', off', hab, hd⟩ := HI.out.below HB3.out j (by omega)
              simp only [Option.some.injEq, Addr.mk.injEq, and_true] at hab
              obtain ⟨rfl, rfl⟩ := hab
              have HYes := Lib.hid (hitAt_yes (l := l) (i := k) (k := j) hk hjk)
              have HNx : Hid (clash (at' l k) (at' l j) = false → ∀ i, i < j + 1 → clash (at' l k) (at' l i) = false) := Lib.hid fun h i hi => by
                by_cases e : i = j
                · rw [e]; exact h
                · exact HN3.out i (by omega)
              generalize at' l k = x at *
              generalize at' l j = y at *
              obtain ⟨x0, x1, x2, x3, x4⟩ := x
              obtain ⟨y0, y1, y2, y3, y4⟩ := y
              obtain ⟨c0, c1, c2, c3, c4⟩ := hc
              obtain ⟨d0, d1, d2, d3, d4⟩ := hd
              simp only at c0 c1 c2 c3 c4 d0 d1 d2 d3 d4
              have hcl : clash ⟨x0, x1, x2, x3, x4⟩ ⟨y0, y1, y2, y3, y4⟩ = (decide (x2 = y2) && (decide (x0 < y1) && decide (y0 < x1))) := rfl
              have hk0 : (0 : Int) ≤ (k : Int) := by omega
              have hj0 : (0 : Int) ≤ (j : Int) := by omega
              have hji : (j : Int) < l.length := by omega
              have hjki : (j : Int) < (k : Int) := by omega
              have hjn : j < l.length := by omega
              clear HHit HOk HN2 HN3 c3 c4 d3 d4
              by_cases e1 : x2 = y2
              · have f1 : (x2 == y2) = true := beq_iff_eq.2 e1
                by_cases e2 : x0 < y1
                · have f2 : decide (x0 < y1) = true := decide_eq_true e2
                  by_cases e3 : y0 < x1
                  · have f3 : decide (y0 < x1) = true := decide_eq_true e3
                    have HE := Lib.hid (HHk.out (HYes.out (by rw [hcl, f2, f3, decide_eq_true e1]; rfl)))
                    have HE1 := Lib.hid e1
                    subst e1
                    clear hcl HYes HNx HNext HHk
                    go_wp2_with fail
                    go_quiet (fail)
                    go_wp2_with fail
                    go_ret
                    exact ⟨ret_int HE.out.symm, HB3.out.trans (below_drewN (Below.refl _ _) _)⟩
                  · have f3 : decide (y0 < x1) = false := decide_eq_false e3
                    have HN4 := Lib.hid (HNx.out (by rw [hcl, f2, f3, decide_eq_true e1]; rfl))
                    subst e1
                    clear hcl HYes HNx HNext HHk
                    go_wp2_with fail
                    go_quiet (fail)
                    go_wp2_with fail
                    go_roundw
                    case rel => exact ⟨j + 1, by omega, by go_num, HN4.out, HB3.out.trans (below_drewN (Below.refl _ _) _)⟩
                    case measure => simp [intOf]; omega
                · have f2 : decide (x0 < y1) = false := decide_eq_false e2
                  have HN4 := Lib.hid (HNx.out (by rw [hcl, f2, decide_eq_true e1]; rfl))
                  subst e1
                  clear hcl HYes HNx HNext HHk
                  go_wp2_with fail
                  go_quiet (fail)
                  go_wp2_with fail
                  go_roundw
                  case rel => exact ⟨j + 1, by omega, by go_num, HN4.out, HB3.out.trans (below_drewN (Below.refl _ _) _)⟩
                  case measure => simp [intOf]; omega
              · have f1 : (x2 == y2) = false := beq_eq_false_iff_ne.2 e1
                have HN4 := Lib.hid (HNx.out (by rw [hcl, decide_eq_false e1]; rfl))
                clear hcl HYes HNx HNext HHk
                go_wp2_with fail
                go_quiet (fail)
                go_wp2_with fail
                go_roundw
                case rel => exact ⟨j + 1, by omega, by go_num, HN4.out, HB3.out.trans (below_drewN (Below.refl _ _) _)⟩
                case measure => simp [intOf]; omega
            · have HN4 := Lib.hid (HNext.out (hitAt_no fun i hi => HN3.out i (by omega)))
              have hjki : ¬ (j : Int) < (k : Int) := by omega
              go_wp2_with fail
              go_roundw
              case rel => exact ⟨k + 1, by omega, by go_num, HN4.out, HB3.out⟩
              case measure => simp [intOf]; omega
        · have HE := Lib.hid (HOk.out fun j hj => HN2.out j (by omega))
          have hki : ¬ (k : Int) < l.length := by omega
          go_wp2_with fail
          go_ret
          exact ⟨ret_int HE.out.symm, HB2.out⟩
end Go.Proofs.Ytmhneonebjcieaa
