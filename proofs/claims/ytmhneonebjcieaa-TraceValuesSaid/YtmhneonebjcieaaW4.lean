/- The walk of Validate of the program. -/
import Derived.Test.YtmhneonebjcieaaW2
import Derived.Test.YtmhneonebjcieaaW3
import Derived.Deep.RegionHeld3
import Derived.IntWalk
namespace Go.Proofs.Ytmhneonebjcieaa
open Go.RowKit

theorem below_of_drew {w w' : World} (h : Below w.drew.heap.size w.drew w') : Below w.heap.size w w' := (Below.refl _ _).drew.trans h
theorem below_drew_of {w w' : World} (h : Below w.heap.size w w') : Below w.heap.size w.drew w' := ⟨h.os, h.tape, h.output, h.size, h.block⟩
theorem isPlace_is {p : Pl} {b : Bool} (h : isPl p = b) (w : World) : Calls Try.prog 50 #[(.agg #[.int .i64 p.fr, .int .i64 p.to, .int .i64 p.va, .int .i64 p.ki, .int .i64 p.nn])] w fun e w' => e = .returned (.bool b) ∧ Below w.heap.size w w' := by rw [← h]; exact isPlace_any p w
theorem compare_is {p q : Pl} {b : Int} (h : cmpP p q = b) (w : World) : Calls Try.prog 48 #[(.agg #[.int .i64 p.fr, .int .i64 p.to, .int .i64 p.va, .int .i64 p.ki, .int .i64 p.nn]), (.agg #[.int .i64 q.fr, .int .i64 q.to, .int .i64 q.va, .int .i64 q.ki, .int .i64 q.nn])] w fun e w' => e = .returned (.int .i64 b) ∧ Below w.heap.size w w' := by rw [← h]; exact compare_any p q w
theorem badAt_no {l : List Pl} {k : Nat} {x : Pl} (hx : at' l k = x) (h : isPl x = false) : badAt l k = true := by
  unfold badAt; rw [hx, h]; rfl
theorem badAt_zero {l : List Pl} {x : Pl} (hx : at' l 0 = x) (h : isPl x = true) : badAt l 0 = false := by
  unfold badAt; rw [hx, h]; rfl
theorem badAt_succ {l : List Pl} {k : Nat} {x y : Pl} (hx : at' l (k + 1) = x) (hy : at' l k = y) (h : isPl x = true) : badAt l (k + 1) = !decide (cmpP y x < 0) := by
  unfold badAt; rw [hx, h, Nat.add_sub_cancel, hy, decide_eq_true (Nat.succ_pos k)]; unfold ltP; rfl

/-- The closure of Validate. -/
theorem val1_any (x y : Pl) (q : Nat) (w : World) (hx : PlAt w q 0 x) :
    Calls Try.prog 52 #[(.agg #[.int .i64 y.fr, .int .i64 y.to, .int .i64 y.va, .int .i64 y.ki, .int .i64 y.nn]), .pointer (some ⟨q, 0, none⟩)] w fun e w' => e = .returned (.bool (clash x y)) ∧ Below w.heap.size w w' := by
  have HBl : Hid (∀ o, Below w.heap.size w (w.alloc o)) := Lib.hid fun o => (Below.refl _ _).alloc (Nat.le_refl _) _
  have hqw : q < w.heap.size := block_lt_of_cell hx.c0
  unfold clash
  obtain ⟨x0, x1, x2, x3, x4⟩ := x
  obtain ⟨y0, y1, y2, y3, y4⟩ := y
  obtain ⟨c0, c1, c2, c3, c4⟩ := hx
  simp only [Nat.zero_add] at c0 c1 c2 c3 c4 ⊢
  by_cases h0 : x2 = y2
  rotate_left
  · rw [decide_eq_false h0]
    have h0' : (x2 == y2) = false := beq_eq_false_iff_ne.2 h0
    go_enter Try.func52, Try.ntmps52
    go_wp2_with fail
    go_ret
    exact ⟨rfl, HBl.out _⟩
  subst h0
  have h0' : (x2 == x2) = true := by simp
  rw [decide_eq_true rfl]
  by_cases h1 : x0 < y1
  all_goals
    by_cases h2 : y0 < x1
  · rw [decide_eq_true h1, decide_eq_true h2]
    go_enter Try.func52, Try.ntmps52
    go_wp2_with fail
    go_ret
    exact ⟨rfl, HBl.out _⟩
  · rw [decide_eq_true h1, decide_eq_false h2]
    go_enter Try.func52, Try.ntmps52
    go_wp2_with fail
    go_ret
    exact ⟨rfl, HBl.out _⟩
  · rw [decide_eq_false h1]
    go_enter Try.func52, Try.ntmps52
    go_wp2_with fail
    go_ret
    exact ⟨rfl, HBl.out _⟩
  · rw [decide_eq_false h1]
    go_enter Try.func52, Try.ntmps52
    go_wp2_with fail
    go_ret
    exact ⟨rfl, HBl.out _⟩
theorem val1_enter : ∀ args w, (callFunc 52 args).run Try.prog w = .ok (.enter 52 args) w := enters_of Try.func52 (by kernel_rfl) rfl

set_option maxRecDepth 100000 in
set_option maxHeartbeats 4000000 in
theorem valid_any (l : List Pl) (a : Option Addr) (cap : Nat) (w : World) (hin : PlsIn w a l) (hlc : l.length ≤ cap) (hl : l.length ≤ 1000) :
    Calls Try.prog 28 #[.slice a l.length cap] w fun e w' => e = .returned (.int .i64 (valE l)) ∧ Below w.heap.size w w' := by
  have HI := Lib.hid hin; clear hin
  by_cases h64 : 64 < l.length
  · have hE : valE l = 3 := by unfold valE; rw [if_pos h64]
    have hi : (64 : Int) < (l.length : Int) := by omega
    rw [hE]
    clear hE
    go_enter Try.func28, Try.ntmps28
    go_wp2_with fail
    go_ret
    exact ⟨rfl, Below.refl _ _⟩
  have hi : ¬ (64 : Int) < (l.length : Int) := by omega
  have HBad : Hid (∀ k, k < l.length → badAt l k = true → valE l = 1) := Lib.hid fun k hk h => by
    unfold valE; rw [if_neg h64, if_pos (anyTo_true.2 ⟨k, hk, h⟩)]
  have HHit : Hid ((∀ k, k < l.length → badAt l k = false) → ∀ k, k < l.length → hitAt l k = true → valE l = 7) := Lib.hid fun h0 k hk h => by
    unfold valE; rw [if_neg h64, if_neg (by rw [anyTo_false.2 h0]; simp), if_pos (anyTo_true.2 ⟨k, hk, h⟩)]
  have HOk : Hid ((∀ k, k < l.length → badAt l k = false) → (∀ k, k < l.length → hitAt l k = false) → valE l = 0) := Lib.hid fun h0 h1 => by
    unfold valE; rw [if_neg h64, if_neg (by rw [anyTo_false.2 h0]; simp), if_neg (by rw [anyTo_false.2 h1]; simp)]
  generalize valE l = E at *
  go_enter Try.func28, Try.ntmps28
  go_wp2_with fail
  go_loopw [12] (fun i wr => ∃ k : Nat, k ≤ l.length ∧ i = .int .i64 k ∧ (∀ j, j < k → badAt l j = false) ∧ Below w.heap.size w wr) (fun i _ => l.length - (intOf i).toNat)
  case atStart => exact ⟨0, Nat.zero_le _, rfl, fun j hj => absurd hj (Nat.not_lt_zero _), Below.refl _ _⟩
  case round =>
    obtain ⟨k, hk, rfl, hny, hb⟩ := hrel
    have HB := Lib.hid hb; have HN := Lib.hid hny; clear hny hb
    by_cases hlt : k < l.length
    · obtain ⟨b, off, rfl, hc⟩ := HI.out.below HB.out k hlt
      have HNext : Hid (badAt l k = false → ∀ j, j < k + 1 → badAt l j = false) := Lib.hid fun h j hj => by
        by_cases e : j = k
        · rw [e]; exact h
        · exact HN.out j (by omega)
      have HBk := Lib.hid (HBad.out k hlt)
      by_cases h0 : k = 0
      · subst h0
        generalize hx : at' l 0 = x at *
        have HX := Lib.hid hx; clear hx
        obtain ⟨x0, x1, x2, x3, x4⟩ := x
        obtain ⟨c0, c1, c2, c3, c4⟩ := hc
        simp only [Nat.zero_mul, Nat.add_zero] at c0 c1 c2 c3 c4
        have hz : ¬ (0 : Int) < 0 := by omega
        clear HHit HOk HBad HN
        cases hP : isPl ⟨x0, x1, x2, x3, x4⟩
        · have HE := Lib.hid (HBk.out (badAt_no HX.out hP))
          have HP := Lib.hid hP; clear hP
          have hb1 := (Below.refl wr.heap.size wr).alloc (Nat.le_refl _) (.cells #[.int .i64 x0, .int .i64 x1, .int .i64 x2, .int .i64 x3, .int .i64 x4] 38)
          have e0 : (wr.alloc (.cells #[.int .i64 x0, .int .i64 x1, .int .i64 x2, .int .i64 x3, .int .i64 x4] 38)).cell? ⟨wr.heap.size, 0, none⟩ = some (.int .i64 x0) := by simp [go_sem]
          have e1 : (wr.alloc (.cells #[.int .i64 x0, .int .i64 x1, .int .i64 x2, .int .i64 x3, .int .i64 x4] 38)).cell? ⟨wr.heap.size, 1, none⟩ = some (.int .i64 x1) := by simp [go_sem]
          have e2 : (wr.alloc (.cells #[.int .i64 x0, .int .i64 x1, .int .i64 x2, .int .i64 x3, .int .i64 x4] 38)).cell? ⟨wr.heap.size, 2, none⟩ = some (.int .i64 x2) := by simp [go_sem]
          have e3 : (wr.alloc (.cells #[.int .i64 x0, .int .i64 x1, .int .i64 x2, .int .i64 x3, .int .i64 x4] 38)).cell? ⟨wr.heap.size, 3, none⟩ = some (.int .i64 x3) := by simp [go_sem]
          have e4 : (wr.alloc (.cells #[.int .i64 x0, .int .i64 x1, .int .i64 x2, .int .i64 x3, .int .i64 x4] 38)).cell? ⟨wr.heap.size, 4, none⟩ = some (.int .i64 x4) := by simp [go_sem]
          have HB1 := Lib.hid hb1
          clear hb1
          go_wp2_with fail
          generalize wr.alloc (.cells #[.int .i64 x0, .int .i64 x1, .int .i64 x2, .int .i64 x3, .int .i64 x4] 38) = w0 at *
          generalize hq : wr.heap.size = q0 at *
          have HQ := Lib.hid hq; clear hq
          have HPc := Lib.hid (isPlace_is HP.out)
          have HPP : Hid (∀ w, Calls Try.prog 50 #[.agg #[.int .i64 x0, .int .i64 x1, .int .i64 x2, .int .i64 x3, .int .i64 x4]] w fun e w' => e = .returned (.bool false) ∧ Below w.heap.size w w') := HPc
          clear HPc
          clear c0 c1 c2 c3 c4
          refine wp_region_held_drew (S := (fun w' => w'.cell? ⟨q0, 0, none⟩ = some (.int .i64 x0) ∧ w'.cell? ⟨q0, 1, none⟩ = some (.int .i64 x1) ∧ w'.cell? ⟨q0, 2, none⟩ = some (.int .i64 x2) ∧ w'.cell? ⟨q0, 3, none⟩ = some (.int .i64 x3) ∧ w'.cell? ⟨q0, 4, none⟩ = some (.int .i64 x4))) (by kernel_rfl) ⟨e0, e1, e2, e3, e4⟩ (fun hHeld => ?_)
          refine wpAnyH_take (i := 0) (v := ?v0b) (by simp only [List.getElem?_toArray, List.getElem?_cons_zero]; rfl) (by kernel_rfl) (by kernel_rfl) (by kernel_rfl) (by exact fun _ _ _ h => h) (Or.inl ⟨by rfl, ?hy0b⟩) (by assumption) ?_
          case hy0b => intro w hSw; (try dsimp only at hSw); go_simp; try with_reducible rfl
          try simp only [Act.put, List.setIfInBounds_toArray, List.set_cons_zero, List.set_cons_succ]
          refine wpAnyH_ready (rs := [1]) (by kernel_rfl) (by simp) ?_
          refine AllReadyH.cons (by simp only [List.getElem?_toArray, List.getElem?_cons_zero, List.getElem?_cons_succ]; rfl) (fun K hK => ?_) AllReadyH.nil
          go_simp
          go_at_call 50; refine (HPP.out _).mono ?_; rintro e w1 ⟨rfl, hb1⟩; have hb1 := below_of_drew hb1
          refine hK.out _ _ ⟨keep e0 hb1, keep e1 hb1, keep e2 hb1, keep e3 hb1, keep e4 hb1⟩ (fun hHeld2 => ?_)
          clear hK K
          try simp only [Act.put, List.setIfInBounds_toArray, List.set_cons_zero, List.set_cons_succ]
          refine wpAnyH_take (i := 2) (v := ?v2b) (by simp only [List.getElem?_toArray, List.getElem?_cons_zero, List.getElem?_cons_succ]; rfl) (by kernel_rfl) (by kernel_rfl) (by kernel_rfl) (by exact fun _ _ _ h => h) (Or.inl ⟨by rfl, ?hy2b⟩) (by assumption) ?_
          case hy2b => intro w hSw; (try dsimp only at hSw); go_simp; try with_reducible rfl
          try simp only [Act.put, List.setIfInBounds_toArray, List.set_cons_zero, List.set_cons_succ]
          refine wpAnyH_take (i := 3) (v := ?v3b) (by simp only [List.getElem?_toArray, List.getElem?_cons_zero, List.getElem?_cons_succ]; rfl) (by kernel_rfl) (by kernel_rfl) (by kernel_rfl) (by exact fun _ _ _ h => h) (Or.inl ⟨by rfl, ?hy3b⟩) (by assumption) ?_
          case hy3b => intro w hSw; (try dsimp only at hSw); go_simp; try with_reducible rfl
          try simp only [Act.put, List.setIfInBounds_toArray, List.set_cons_zero, List.set_cons_succ]
          refine wpAnyH_take (i := 4) (v := undef) (by simp only [List.getElem?_toArray, List.getElem?_cons_zero, List.getElem?_cons_succ]; rfl) (by kernel_rfl) (by kernel_rfl) (by kernel_rfl) (by exact fun _ _ _ h => h) (Or.inr ⟨by rfl, rfl⟩) (by assumption) ?_
          try simp only [Act.put, List.setIfInBounds_toArray, List.set_cons_zero, List.set_cons_succ]
          refine wpAnyH_take (i := 5) (v := undef) (by simp only [List.getElem?_toArray, List.getElem?_cons_zero, List.getElem?_cons_succ]; rfl) (by kernel_rfl) (by kernel_rfl) (by kernel_rfl) (by exact fun _ _ _ h => h) (Or.inr ⟨by rfl, rfl⟩) (by assumption) ?_
          try simp only [Act.put, List.setIfInBounds_toArray, List.set_cons_zero, List.set_cons_succ]
          refine wpAnyH_take (i := 6) (v := undef) (by simp only [List.getElem?_toArray, List.getElem?_cons_zero, List.getElem?_cons_succ]; rfl) (by kernel_rfl) (by kernel_rfl) (by kernel_rfl) (by exact fun _ _ _ h => h) (Or.inr ⟨by rfl, rfl⟩) (by assumption) ?_
          try simp only [Act.put, List.setIfInBounds_toArray, List.set_cons_zero, List.set_cons_succ]
          refine wpAnyH_take (i := 7) (v := undef) (by simp only [List.getElem?_toArray, List.getElem?_cons_zero, List.getElem?_cons_succ]; rfl) (by kernel_rfl) (by kernel_rfl) (by kernel_rfl) (by exact fun _ _ _ h => h) (Or.inr ⟨by rfl, rfl⟩) (by assumption) ?_
          try simp only [Act.put, List.setIfInBounds_toArray, List.set_cons_zero, List.set_cons_succ]
          refine wpAnyH_take (i := 8) (v := undef) (by simp only [List.getElem?_toArray, List.getElem?_cons_zero, List.getElem?_cons_succ]; rfl) (by kernel_rfl) (by kernel_rfl) (by kernel_rfl) (by exact fun _ _ _ h => h) (Or.inr ⟨by rfl, rfl⟩) (by assumption) ?_
          try simp only [Act.put, List.setIfInBounds_toArray, List.set_cons_zero, List.set_cons_succ]
          refine wpAnyH_take (i := 9) (v := undef) (by simp only [List.getElem?_toArray, List.getElem?_cons_zero, List.getElem?_cons_succ]; rfl) (by kernel_rfl) (by kernel_rfl) (by kernel_rfl) (by exact fun _ _ _ h => h) (Or.inr ⟨by rfl, rfl⟩) (by assumption) ?_
          try simp only [Act.put, List.setIfInBounds_toArray, List.set_cons_zero, List.set_cons_succ]
          refine wpAnyH_take (i := 10) (v := undef) (by simp only [List.getElem?_toArray, List.getElem?_cons_zero, List.getElem?_cons_succ]; rfl) (by kernel_rfl) (by kernel_rfl) (by kernel_rfl) (by exact fun _ _ _ h => h) (Or.inr ⟨by rfl, rfl⟩) (by assumption) ?_
          try simp only [Act.put, List.setIfInBounds_toArray, List.set_cons_zero, List.set_cons_succ]
          refine wpAnyH_take (i := 11) (v := undef) (by simp only [List.getElem?_toArray, List.getElem?_cons_zero, List.getElem?_cons_succ]; rfl) (by kernel_rfl) (by kernel_rfl) (by kernel_rfl) (by exact fun _ _ _ h => h) (Or.inr ⟨by rfl, rfl⟩) (by assumption) ?_
          try simp only [Act.put, List.setIfInBounds_toArray, List.set_cons_zero, List.set_cons_succ]
          refine wpAnyH_take (i := 12) (v := undef) (by simp only [List.getElem?_toArray, List.getElem?_cons_zero, List.getElem?_cons_succ]; rfl) (by kernel_rfl) (by kernel_rfl) (by kernel_rfl) (by exact fun _ _ _ h => h) (Or.inr ⟨by rfl, rfl⟩) (by assumption) ?_
          try simp only [Act.put, List.setIfInBounds_toArray, List.set_cons_zero, List.set_cons_succ]
          refine wpAnyH_take (i := 13) (v := undef) (by simp only [List.getElem?_toArray, List.getElem?_cons_zero, List.getElem?_cons_succ]; rfl) (by kernel_rfl) (by kernel_rfl) (by kernel_rfl) (by exact fun _ _ _ h => h) (Or.inr ⟨by rfl, rfl⟩) (by assumption) ?_
          try simp only [Act.put, List.setIfInBounds_toArray, List.set_cons_zero, List.set_cons_succ]
          refine wpAnyH_take (i := 14) (v := undef) (by simp only [List.getElem?_toArray, List.getElem?_cons_zero, List.getElem?_cons_succ]; rfl) (by kernel_rfl) (by kernel_rfl) (by kernel_rfl) (by exact fun _ _ _ h => h) (Or.inr ⟨by rfl, rfl⟩) (by assumption) ?_
          try simp only [Act.put, List.setIfInBounds_toArray, List.set_cons_zero, List.set_cons_succ]
          refine wpAnyH_take (i := 15) (v := undef) (by simp only [List.getElem?_toArray, List.getElem?_cons_zero, List.getElem?_cons_succ]; rfl) (by kernel_rfl) (by kernel_rfl) (by kernel_rfl) (by exact fun _ _ _ h => h) (Or.inr ⟨by rfl, rfl⟩) (by assumption) ?_
          try simp only [Act.put, List.setIfInBounds_toArray, List.set_cons_zero, List.set_cons_succ]
          refine wpAnyH_take (i := 16) (v := ?v16b) (by simp only [List.getElem?_toArray, List.getElem?_cons_zero, List.getElem?_cons_succ]; rfl) (by kernel_rfl) (by kernel_rfl) (by kernel_rfl) (by exact fun _ _ _ h => h) (Or.inl ⟨by rfl, ?hy16b⟩) (by assumption) ?_
          case hy16b => intro w hSw; (try dsimp only at hSw); go_simp; try with_reducible rfl
          try simp only [Act.put, List.setIfInBounds_toArray, List.set_cons_zero, List.set_cons_succ]
          refine wpAnyH_done (by kernel_rfl) ?_ _
          have HBL := Lib.hid (HB.out.trans ((HB1.out.trans (hb1.mono (by rw [← HQ.out]; exact HB1.out.size))).mono (by rw [← HQ.out]; exact HB.out.size)))
          clear hb1
          go_wp2_with fail
          go_ret
          exact ⟨ret_int HE.out.symm, HBL.out⟩
        · have HN1 := Lib.hid (HNext.out (badAt_zero HX.out hP))
          have HP := Lib.hid hP; clear hP
          have hb1 := (Below.refl wr.heap.size wr).alloc (Nat.le_refl _) (.cells #[.int .i64 x0, .int .i64 x1, .int .i64 x2, .int .i64 x3, .int .i64 x4] 38)
          have e0 : (wr.alloc (.cells #[.int .i64 x0, .int .i64 x1, .int .i64 x2, .int .i64 x3, .int .i64 x4] 38)).cell? ⟨wr.heap.size, 0, none⟩ = some (.int .i64 x0) := by simp [go_sem]
          have e1 : (wr.alloc (.cells #[.int .i64 x0, .int .i64 x1, .int .i64 x2, .int .i64 x3, .int .i64 x4] 38)).cell? ⟨wr.heap.size, 1, none⟩ = some (.int .i64 x1) := by simp [go_sem]
          have e2 : (wr.alloc (.cells #[.int .i64 x0, .int .i64 x1, .int .i64 x2, .int .i64 x3, .int .i64 x4] 38)).cell? ⟨wr.heap.size, 2, none⟩ = some (.int .i64 x2) := by simp [go_sem]
          have e3 : (wr.alloc (.cells #[.int .i64 x0, .int .i64 x1, .int .i64 x2, .int .i64 x3, .int .i64 x4] 38)).cell? ⟨wr.heap.size, 3, none⟩ = some (.int .i64 x3) := by simp [go_sem]
          have e4 : (wr.alloc (.cells #[.int .i64 x0, .int .i64 x1, .int .i64 x2, .int .i64 x3, .int .i64 x4] 38)).cell? ⟨wr.heap.size, 4, none⟩ = some (.int .i64 x4) := by simp [go_sem]
          have HB1 := Lib.hid hb1
          clear hb1
          go_wp2_with fail
          generalize wr.alloc (.cells #[.int .i64 x0, .int .i64 x1, .int .i64 x2, .int .i64 x3, .int .i64 x4] 38) = w0 at *
          generalize hq : wr.heap.size = q0 at *
          have HQ := Lib.hid hq; clear hq
          have HPc := Lib.hid (isPlace_is HP.out)
          have HPP : Hid (∀ w, Calls Try.prog 50 #[.agg #[.int .i64 x0, .int .i64 x1, .int .i64 x2, .int .i64 x3, .int .i64 x4]] w fun e w' => e = .returned (.bool true) ∧ Below w.heap.size w w') := HPc
          clear HPc
          clear c0 c1 c2 c3 c4
          refine wp_region_held_drew (S := (fun w' => w'.cell? ⟨q0, 0, none⟩ = some (.int .i64 x0) ∧ w'.cell? ⟨q0, 1, none⟩ = some (.int .i64 x1) ∧ w'.cell? ⟨q0, 2, none⟩ = some (.int .i64 x2) ∧ w'.cell? ⟨q0, 3, none⟩ = some (.int .i64 x3) ∧ w'.cell? ⟨q0, 4, none⟩ = some (.int .i64 x4))) (by kernel_rfl) ⟨e0, e1, e2, e3, e4⟩ (fun hHeld => ?_)
          refine wpAnyH_take (i := 0) (v := ?v0c) (by simp only [List.getElem?_toArray, List.getElem?_cons_zero]; rfl) (by kernel_rfl) (by kernel_rfl) (by kernel_rfl) (by exact fun _ _ _ h => h) (Or.inl ⟨by rfl, ?hy0c⟩) (by assumption) ?_
          case hy0c => intro w hSw; (try dsimp only at hSw); go_simp; try with_reducible rfl
          try simp only [Act.put, List.setIfInBounds_toArray, List.set_cons_zero, List.set_cons_succ]
          refine wpAnyH_ready (rs := [1]) (by kernel_rfl) (by simp) ?_
          refine AllReadyH.cons (by simp only [List.getElem?_toArray, List.getElem?_cons_zero, List.getElem?_cons_succ]; rfl) (fun K hK => ?_) AllReadyH.nil
          go_simp
          go_at_call 50; refine (HPP.out _).mono ?_; rintro e w1 ⟨rfl, hb1⟩; have hb1 := below_of_drew hb1
          refine hK.out _ _ ⟨keep e0 hb1, keep e1 hb1, keep e2 hb1, keep e3 hb1, keep e4 hb1⟩ (fun hHeld2 => ?_)
          clear hK K
          try simp only [Act.put, List.setIfInBounds_toArray, List.set_cons_zero, List.set_cons_succ]
          refine wpAnyH_take (i := 2) (v := ?v2c) (by simp only [List.getElem?_toArray, List.getElem?_cons_zero, List.getElem?_cons_succ]; rfl) (by kernel_rfl) (by kernel_rfl) (by kernel_rfl) (by exact fun _ _ _ h => h) (Or.inl ⟨by rfl, ?hy2c⟩) (by assumption) ?_
          case hy2c => intro w hSw; (try dsimp only at hSw); go_simp; try with_reducible rfl
          try simp only [Act.put, List.setIfInBounds_toArray, List.set_cons_zero, List.set_cons_succ]
          refine wpAnyH_take (i := 3) (v := ?v3c) (by simp only [List.getElem?_toArray, List.getElem?_cons_zero, List.getElem?_cons_succ]; rfl) (by kernel_rfl) (by kernel_rfl) (by kernel_rfl) (by exact fun _ _ _ h => h) (Or.inl ⟨by rfl, ?hy3c⟩) (by assumption) ?_
          case hy3c => intro w hSw; (try dsimp only at hSw); go_simp; try with_reducible rfl
          try simp only [Act.put, List.setIfInBounds_toArray, List.set_cons_zero, List.set_cons_succ]
          refine wpAnyH_take (i := 4) (v := ?v4c) (by simp only [List.getElem?_toArray, List.getElem?_cons_zero, List.getElem?_cons_succ]; rfl) (by kernel_rfl) (by kernel_rfl) (by kernel_rfl) (by exact fun _ _ _ h => h) (Or.inl ⟨by rfl, ?hy4c⟩) (by assumption) ?_
          case hy4c => intro w hSw; (try dsimp only at hSw); go_simp; try with_reducible rfl
          try simp only [Act.put, List.setIfInBounds_toArray, List.set_cons_zero, List.set_cons_succ]
          refine wpAnyH_take (i := 5) (v := ?v5c) (by simp only [List.getElem?_toArray, List.getElem?_cons_zero, List.getElem?_cons_succ]; rfl) (by kernel_rfl) (by kernel_rfl) (by kernel_rfl) (by exact fun _ _ _ h => h) (Or.inl ⟨by rfl, ?hy5c⟩) (by assumption) ?_
          case hy5c => intro w hSw; (try dsimp only at hSw); go_simp; try with_reducible rfl
          try simp only [Act.put, List.setIfInBounds_toArray, List.set_cons_zero, List.set_cons_succ]
          refine wpAnyH_take (i := 6) (v := ?v6c) (by simp only [List.getElem?_toArray, List.getElem?_cons_zero, List.getElem?_cons_succ]; rfl) (by kernel_rfl) (by kernel_rfl) (by kernel_rfl) (by exact fun _ _ _ h => h) (Or.inl ⟨by rfl, ?hy6c⟩) (by assumption) ?_
          case hy6c => intro w hSw; (try dsimp only at hSw); go_simp; try with_reducible rfl
          try simp only [Act.put, List.setIfInBounds_toArray, List.set_cons_zero, List.set_cons_succ]
          refine wpAnyH_take (i := 7) (v := undef) (by simp only [List.getElem?_toArray, List.getElem?_cons_zero, List.getElem?_cons_succ]; rfl) (by kernel_rfl) (by kernel_rfl) (by kernel_rfl) (by exact fun _ _ _ h => h) (Or.inr ⟨by rfl, rfl⟩) (by assumption) ?_
          try simp only [Act.put, List.setIfInBounds_toArray, List.set_cons_zero, List.set_cons_succ]
          refine wpAnyH_take (i := 8) (v := undef) (by simp only [List.getElem?_toArray, List.getElem?_cons_zero, List.getElem?_cons_succ]; rfl) (by kernel_rfl) (by kernel_rfl) (by kernel_rfl) (by exact fun _ _ _ h => h) (Or.inr ⟨by rfl, rfl⟩) (by assumption) ?_
          try simp only [Act.put, List.setIfInBounds_toArray, List.set_cons_zero, List.set_cons_succ]
          refine wpAnyH_take (i := 9) (v := undef) (by simp only [List.getElem?_toArray, List.getElem?_cons_zero, List.getElem?_cons_succ]; rfl) (by kernel_rfl) (by kernel_rfl) (by kernel_rfl) (by exact fun _ _ _ h => h) (Or.inr ⟨by rfl, rfl⟩) (by assumption) ?_
          try simp only [Act.put, List.setIfInBounds_toArray, List.set_cons_zero, List.set_cons_succ]
          refine wpAnyH_take (i := 10) (v := undef) (by simp only [List.getElem?_toArray, List.getElem?_cons_zero, List.getElem?_cons_succ]; rfl) (by kernel_rfl) (by kernel_rfl) (by kernel_rfl) (by exact fun _ _ _ h => h) (Or.inr ⟨by rfl, rfl⟩) (by assumption) ?_
          try simp only [Act.put, List.setIfInBounds_toArray, List.set_cons_zero, List.set_cons_succ]
          refine wpAnyH_take (i := 11) (v := undef) (by simp only [List.getElem?_toArray, List.getElem?_cons_zero, List.getElem?_cons_succ]; rfl) (by kernel_rfl) (by kernel_rfl) (by kernel_rfl) (by exact fun _ _ _ h => h) (Or.inr ⟨by rfl, rfl⟩) (by assumption) ?_
          try simp only [Act.put, List.setIfInBounds_toArray, List.set_cons_zero, List.set_cons_succ]
          refine wpAnyH_take (i := 12) (v := undef) (by simp only [List.getElem?_toArray, List.getElem?_cons_zero, List.getElem?_cons_succ]; rfl) (by kernel_rfl) (by kernel_rfl) (by kernel_rfl) (by exact fun _ _ _ h => h) (Or.inr ⟨by rfl, rfl⟩) (by assumption) ?_
          try simp only [Act.put, List.setIfInBounds_toArray, List.set_cons_zero, List.set_cons_succ]
          refine wpAnyH_take (i := 13) (v := undef) (by simp only [List.getElem?_toArray, List.getElem?_cons_zero, List.getElem?_cons_succ]; rfl) (by kernel_rfl) (by kernel_rfl) (by kernel_rfl) (by exact fun _ _ _ h => h) (Or.inr ⟨by rfl, rfl⟩) (by assumption) ?_
          try simp only [Act.put, List.setIfInBounds_toArray, List.set_cons_zero, List.set_cons_succ]
          refine wpAnyH_take (i := 14) (v := undef) (by simp only [List.getElem?_toArray, List.getElem?_cons_zero, List.getElem?_cons_succ]; rfl) (by kernel_rfl) (by kernel_rfl) (by kernel_rfl) (by exact fun _ _ _ h => h) (Or.inr ⟨by rfl, rfl⟩) (by assumption) ?_
          try simp only [Act.put, List.setIfInBounds_toArray, List.set_cons_zero, List.set_cons_succ]
          refine wpAnyH_take (i := 15) (v := ?v15c) (by simp only [List.getElem?_toArray, List.getElem?_cons_zero, List.getElem?_cons_succ]; rfl) (by kernel_rfl) (by kernel_rfl) (by kernel_rfl) (by exact fun _ _ _ h => h) (Or.inl ⟨by rfl, ?hy15c⟩) (by assumption) ?_
          case hy15c => intro w hSw; (try dsimp only at hSw); go_simp; try with_reducible rfl
          try simp only [Act.put, List.setIfInBounds_toArray, List.set_cons_zero, List.set_cons_succ]
          refine wpAnyH_take (i := 16) (v := ?v16c) (by simp only [List.getElem?_toArray, List.getElem?_cons_zero, List.getElem?_cons_succ]; rfl) (by kernel_rfl) (by kernel_rfl) (by kernel_rfl) (by exact fun _ _ _ h => h) (Or.inl ⟨by rfl, ?hy16c⟩) (by assumption) ?_
          case hy16c => intro w hSw; (try dsimp only at hSw); go_simp; try with_reducible rfl
          try simp only [Act.put, List.setIfInBounds_toArray, List.set_cons_zero, List.set_cons_succ]
          refine wpAnyH_done (by kernel_rfl) ?_ _
          have HBL := Lib.hid (HB.out.trans ((HB1.out.trans (hb1.mono (by rw [← HQ.out]; exact HB1.out.size))).mono (by rw [← HQ.out]; exact HB.out.size)))
          clear hb1
          go_wp2_with fail
          go_roundw
          case rel => exact ⟨1, by omega, by go_num, HN1.out, HBL.out⟩
          case measure => simp [intOf]; omega
      · obtain ⟨m, rfl⟩ : ∃ m, k = m + 1 := ⟨k - 1, by omega⟩
        obtain ⟨b', off', hab, hd⟩ := HI.out.below HB.out m (by omega)
        simp only [Option.some.injEq, Addr.mk.injEq, and_true] at hab
        obtain ⟨rfl, rfl⟩ := hab
        generalize hx : at' l (m + 1) = x at *
        generalize hy : at' l m = y at *
        have HX := Lib.hid hx; clear hx
        have HY := Lib.hid hy; clear hy
        obtain ⟨x0, x1, x2, x3, x4⟩ := x
        obtain ⟨y0, y1, y2, y3, y4⟩ := y
        obtain ⟨c0, c1, c2, c3, c4⟩ := hc
        obtain ⟨d0, d1, d2, d3, d4⟩ := hd
        simp only at c0 c1 c2 c3 c4 d0 d1 d2 d3 d4
        have hm1 : (0 : Int) < (m : Int) + 1 := by omega
        have hm0 : (0 : Int) ≤ (m : Int) := by omega
        have hml : (m : Int) < l.length := by omega
        have hmn : m < l.length := by omega
        have hmi : (m : Int) + 1 < l.length := by omega
        clear HHit HOk HBad HN
        cases hP : isPl ⟨x0, x1, x2, x3, x4⟩
        · have HE := Lib.hid (HBk.out (badAt_no HX.out hP))
          have HP := Lib.hid hP; clear hP
          have hb1 := (Below.refl wr.heap.size wr).alloc (Nat.le_refl _) (.cells #[.int .i64 x0, .int .i64 x1, .int .i64 x2, .int .i64 x3, .int .i64 x4] 38)
          have e0 : (wr.alloc (.cells #[.int .i64 x0, .int .i64 x1, .int .i64 x2, .int .i64 x3, .int .i64 x4] 38)).cell? ⟨wr.heap.size, 0, none⟩ = some (.int .i64 x0) := by simp [go_sem]
          have e1 : (wr.alloc (.cells #[.int .i64 x0, .int .i64 x1, .int .i64 x2, .int .i64 x3, .int .i64 x4] 38)).cell? ⟨wr.heap.size, 1, none⟩ = some (.int .i64 x1) := by simp [go_sem]
          have e2 : (wr.alloc (.cells #[.int .i64 x0, .int .i64 x1, .int .i64 x2, .int .i64 x3, .int .i64 x4] 38)).cell? ⟨wr.heap.size, 2, none⟩ = some (.int .i64 x2) := by simp [go_sem]
          have e3 : (wr.alloc (.cells #[.int .i64 x0, .int .i64 x1, .int .i64 x2, .int .i64 x3, .int .i64 x4] 38)).cell? ⟨wr.heap.size, 3, none⟩ = some (.int .i64 x3) := by simp [go_sem]
          have e4 : (wr.alloc (.cells #[.int .i64 x0, .int .i64 x1, .int .i64 x2, .int .i64 x3, .int .i64 x4] 38)).cell? ⟨wr.heap.size, 4, none⟩ = some (.int .i64 x4) := by simp [go_sem]
          have HB1 := Lib.hid hb1
          clear hb1
          go_wp2_with fail
          generalize wr.alloc (.cells #[.int .i64 x0, .int .i64 x1, .int .i64 x2, .int .i64 x3, .int .i64 x4] 38) = w0 at *
          generalize hq : wr.heap.size = q0 at *
          have HQ := Lib.hid hq; clear hq
          have HPc := Lib.hid (isPlace_is HP.out)
          have HPP : Hid (∀ w, Calls Try.prog 50 #[.agg #[.int .i64 x0, .int .i64 x1, .int .i64 x2, .int .i64 x3, .int .i64 x4]] w fun e w' => e = .returned (.bool false) ∧ Below w.heap.size w w') := HPc
          clear HPc
          clear c0 c1 c2 c3 c4
          refine wp_region_held_drew (S := (fun w' => w'.cell? ⟨q0, 0, none⟩ = some (.int .i64 x0) ∧ w'.cell? ⟨q0, 1, none⟩ = some (.int .i64 x1) ∧ w'.cell? ⟨q0, 2, none⟩ = some (.int .i64 x2) ∧ w'.cell? ⟨q0, 3, none⟩ = some (.int .i64 x3) ∧ w'.cell? ⟨q0, 4, none⟩ = some (.int .i64 x4))) (by kernel_rfl) ⟨e0, e1, e2, e3, e4⟩ (fun hHeld => ?_)
          refine wpAnyH_take (i := 0) (v := ?v0d) (by simp only [List.getElem?_toArray, List.getElem?_cons_zero]; rfl) (by kernel_rfl) (by kernel_rfl) (by kernel_rfl) (by exact fun _ _ _ h => h) (Or.inl ⟨by rfl, ?hy0d⟩) (by assumption) ?_
          case hy0d => intro w hSw; (try dsimp only at hSw); go_simp; try with_reducible rfl
          try simp only [Act.put, List.setIfInBounds_toArray, List.set_cons_zero, List.set_cons_succ]
          refine wpAnyH_ready (rs := [1]) (by kernel_rfl) (by simp) ?_
          refine AllReadyH.cons (by simp only [List.getElem?_toArray, List.getElem?_cons_zero, List.getElem?_cons_succ]; rfl) (fun K hK => ?_) AllReadyH.nil
          go_simp
          go_at_call 50; refine (HPP.out _).mono ?_; rintro e w1 ⟨rfl, hb1⟩; have hb1 := below_of_drew hb1
          refine hK.out _ _ ⟨keep e0 hb1, keep e1 hb1, keep e2 hb1, keep e3 hb1, keep e4 hb1⟩ (fun hHeld2 => ?_)
          clear hK K
          try simp only [Act.put, List.setIfInBounds_toArray, List.set_cons_zero, List.set_cons_succ]
          refine wpAnyH_take (i := 2) (v := ?v2d) (by simp only [List.getElem?_toArray, List.getElem?_cons_zero, List.getElem?_cons_succ]; rfl) (by kernel_rfl) (by kernel_rfl) (by kernel_rfl) (by exact fun _ _ _ h => h) (Or.inl ⟨by rfl, ?hy2d⟩) (by assumption) ?_
          case hy2d => intro w hSw; (try dsimp only at hSw); go_simp; try with_reducible rfl
          try simp only [Act.put, List.setIfInBounds_toArray, List.set_cons_zero, List.set_cons_succ]
          refine wpAnyH_take (i := 3) (v := ?v3d) (by simp only [List.getElem?_toArray, List.getElem?_cons_zero, List.getElem?_cons_succ]; rfl) (by kernel_rfl) (by kernel_rfl) (by kernel_rfl) (by exact fun _ _ _ h => h) (Or.inl ⟨by rfl, ?hy3d⟩) (by assumption) ?_
          case hy3d => intro w hSw; (try dsimp only at hSw); go_simp; try with_reducible rfl
          try simp only [Act.put, List.setIfInBounds_toArray, List.set_cons_zero, List.set_cons_succ]
          refine wpAnyH_take (i := 4) (v := undef) (by simp only [List.getElem?_toArray, List.getElem?_cons_zero, List.getElem?_cons_succ]; rfl) (by kernel_rfl) (by kernel_rfl) (by kernel_rfl) (by exact fun _ _ _ h => h) (Or.inr ⟨by rfl, rfl⟩) (by assumption) ?_
          try simp only [Act.put, List.setIfInBounds_toArray, List.set_cons_zero, List.set_cons_succ]
          refine wpAnyH_take (i := 5) (v := undef) (by simp only [List.getElem?_toArray, List.getElem?_cons_zero, List.getElem?_cons_succ]; rfl) (by kernel_rfl) (by kernel_rfl) (by kernel_rfl) (by exact fun _ _ _ h => h) (Or.inr ⟨by rfl, rfl⟩) (by assumption) ?_
          try simp only [Act.put, List.setIfInBounds_toArray, List.set_cons_zero, List.set_cons_succ]
          refine wpAnyH_take (i := 6) (v := undef) (by simp only [List.getElem?_toArray, List.getElem?_cons_zero, List.getElem?_cons_succ]; rfl) (by kernel_rfl) (by kernel_rfl) (by kernel_rfl) (by exact fun _ _ _ h => h) (Or.inr ⟨by rfl, rfl⟩) (by assumption) ?_
          try simp only [Act.put, List.setIfInBounds_toArray, List.set_cons_zero, List.set_cons_succ]
          refine wpAnyH_take (i := 7) (v := undef) (by simp only [List.getElem?_toArray, List.getElem?_cons_zero, List.getElem?_cons_succ]; rfl) (by kernel_rfl) (by kernel_rfl) (by kernel_rfl) (by exact fun _ _ _ h => h) (Or.inr ⟨by rfl, rfl⟩) (by assumption) ?_
          try simp only [Act.put, List.setIfInBounds_toArray, List.set_cons_zero, List.set_cons_succ]
          refine wpAnyH_take (i := 8) (v := undef) (by simp only [List.getElem?_toArray, List.getElem?_cons_zero, List.getElem?_cons_succ]; rfl) (by kernel_rfl) (by kernel_rfl) (by kernel_rfl) (by exact fun _ _ _ h => h) (Or.inr ⟨by rfl, rfl⟩) (by assumption) ?_
          try simp only [Act.put, List.setIfInBounds_toArray, List.set_cons_zero, List.set_cons_succ]
          refine wpAnyH_take (i := 9) (v := undef) (by simp only [List.getElem?_toArray, List.getElem?_cons_zero, List.getElem?_cons_succ]; rfl) (by kernel_rfl) (by kernel_rfl) (by kernel_rfl) (by exact fun _ _ _ h => h) (Or.inr ⟨by rfl, rfl⟩) (by assumption) ?_
          try simp only [Act.put, List.setIfInBounds_toArray, List.set_cons_zero, List.set_cons_succ]
          refine wpAnyH_take (i := 10) (v := undef) (by simp only [List.getElem?_toArray, List.getElem?_cons_zero, List.getElem?_cons_succ]; rfl) (by kernel_rfl) (by kernel_rfl) (by kernel_rfl) (by exact fun _ _ _ h => h) (Or.inr ⟨by rfl, rfl⟩) (by assumption) ?_
          try simp only [Act.put, List.setIfInBounds_toArray, List.set_cons_zero, List.set_cons_succ]
          refine wpAnyH_take (i := 11) (v := undef) (by simp only [List.getElem?_toArray, List.getElem?_cons_zero, List.getElem?_cons_succ]; rfl) (by kernel_rfl) (by kernel_rfl) (by kernel_rfl) (by exact fun _ _ _ h => h) (Or.inr ⟨by rfl, rfl⟩) (by assumption) ?_
          try simp only [Act.put, List.setIfInBounds_toArray, List.set_cons_zero, List.set_cons_succ]
          refine wpAnyH_take (i := 12) (v := undef) (by simp only [List.getElem?_toArray, List.getElem?_cons_zero, List.getElem?_cons_succ]; rfl) (by kernel_rfl) (by kernel_rfl) (by kernel_rfl) (by exact fun _ _ _ h => h) (Or.inr ⟨by rfl, rfl⟩) (by assumption) ?_
          try simp only [Act.put, List.setIfInBounds_toArray, List.set_cons_zero, List.set_cons_succ]
          refine wpAnyH_take (i := 13) (v := undef) (by simp only [List.getElem?_toArray, List.getElem?_cons_zero, List.getElem?_cons_succ]; rfl) (by kernel_rfl) (by kernel_rfl) (by kernel_rfl) (by exact fun _ _ _ h => h) (Or.inr ⟨by rfl, rfl⟩) (by assumption) ?_
          try simp only [Act.put, List.setIfInBounds_toArray, List.set_cons_zero, List.set_cons_succ]
          refine wpAnyH_take (i := 14) (v := undef) (by simp only [List.getElem?_toArray, List.getElem?_cons_zero, List.getElem?_cons_succ]; rfl) (by kernel_rfl) (by kernel_rfl) (by kernel_rfl) (by exact fun _ _ _ h => h) (Or.inr ⟨by rfl, rfl⟩) (by assumption) ?_
          try simp only [Act.put, List.setIfInBounds_toArray, List.set_cons_zero, List.set_cons_succ]
          refine wpAnyH_take (i := 15) (v := undef) (by simp only [List.getElem?_toArray, List.getElem?_cons_zero, List.getElem?_cons_succ]; rfl) (by kernel_rfl) (by kernel_rfl) (by kernel_rfl) (by exact fun _ _ _ h => h) (Or.inr ⟨by rfl, rfl⟩) (by assumption) ?_
          try simp only [Act.put, List.setIfInBounds_toArray, List.set_cons_zero, List.set_cons_succ]
          refine wpAnyH_take (i := 16) (v := ?v16d) (by simp only [List.getElem?_toArray, List.getElem?_cons_zero, List.getElem?_cons_succ]; rfl) (by kernel_rfl) (by kernel_rfl) (by kernel_rfl) (by exact fun _ _ _ h => h) (Or.inl ⟨by rfl, ?hy16d⟩) (by assumption) ?_
          case hy16d => intro w hSw; (try dsimp only at hSw); go_simp; try with_reducible rfl
          try simp only [Act.put, List.setIfInBounds_toArray, List.set_cons_zero, List.set_cons_succ]
          refine wpAnyH_done (by kernel_rfl) ?_ _
          have HBL := Lib.hid (HB.out.trans ((HB1.out.trans (hb1.mono (by rw [← HQ.out]; exact HB1.out.size))).mono (by rw [← HQ.out]; exact HB.out.size)))
          clear hb1
          go_wp2_with fail
          go_ret
          exact ⟨ret_int HE.out.symm, HBL.out⟩
        · have hbs := badAt_succ HX.out HY.out hP
          generalize hcm : cmpP ⟨y0, y1, y2, y3, y4⟩ ⟨x0, x1, x2, x3, x4⟩ = cm at *
          have HCM := Lib.hid hcm
          have HP := Lib.hid hP; clear hP hcm
          have hsub : IntKind.i64.wrap ((m : Int) + 1 - 1) = (m : Int) := by rw [Int.add_sub_cancel]; exact IntWalk.i64_in _ (by omega)
          have hsub2 : IntKind.i64.wrap (m : Int) = (m : Int) := IntWalk.i64_in _ (by omega)
          by_cases hlt2 : cm < 0
          · have hge : decide (cm ≥ 0) = false := by simp; omega
            have hge' : ¬ 0 ≤ cm := by omega
            have HN1 := Lib.hid (HNext.out (by rw [hbs, decide_eq_true hlt2]; rfl))
            clear hbs
            have hb1 := (Below.refl wr.heap.size wr).alloc (Nat.le_refl _) (.cells #[.int .i64 x0, .int .i64 x1, .int .i64 x2, .int .i64 x3, .int .i64 x4] 38)
            have e0 : (wr.alloc (.cells #[.int .i64 x0, .int .i64 x1, .int .i64 x2, .int .i64 x3, .int .i64 x4] 38)).cell? ⟨wr.heap.size, 0, none⟩ = some (.int .i64 x0) := by simp [go_sem]
            have e1 : (wr.alloc (.cells #[.int .i64 x0, .int .i64 x1, .int .i64 x2, .int .i64 x3, .int .i64 x4] 38)).cell? ⟨wr.heap.size, 1, none⟩ = some (.int .i64 x1) := by simp [go_sem]
            have e2 : (wr.alloc (.cells #[.int .i64 x0, .int .i64 x1, .int .i64 x2, .int .i64 x3, .int .i64 x4] 38)).cell? ⟨wr.heap.size, 2, none⟩ = some (.int .i64 x2) := by simp [go_sem]
            have e3 : (wr.alloc (.cells #[.int .i64 x0, .int .i64 x1, .int .i64 x2, .int .i64 x3, .int .i64 x4] 38)).cell? ⟨wr.heap.size, 3, none⟩ = some (.int .i64 x3) := by simp [go_sem]
            have e4 : (wr.alloc (.cells #[.int .i64 x0, .int .i64 x1, .int .i64 x2, .int .i64 x3, .int .i64 x4] 38)).cell? ⟨wr.heap.size, 4, none⟩ = some (.int .i64 x4) := by simp [go_sem]
            replace d0 := keep d0 hb1
            replace d1 := keep d1 hb1
            replace d2 := keep d2 hb1
            replace d3 := keep d3 hb1
            replace d4 := keep d4 hb1
            have HB1 := Lib.hid hb1
            clear hb1
            go_wp2_with fail
            generalize wr.alloc (.cells #[.int .i64 x0, .int .i64 x1, .int .i64 x2, .int .i64 x3, .int .i64 x4] 38) = w0 at *
            generalize hq : wr.heap.size = q0 at *
            have HQ := Lib.hid hq; clear hq
            have HPc := Lib.hid (isPlace_is HP.out)
            have HPP : Hid (∀ w, Calls Try.prog 50 #[.agg #[.int .i64 x0, .int .i64 x1, .int .i64 x2, .int .i64 x3, .int .i64 x4]] w fun e w' => e = .returned (.bool true) ∧ Below w.heap.size w w') := HPc
            clear HPc
            have HCc := Lib.hid (compare_is HCM.out)
            have HCC : Hid (∀ w, Calls Try.prog 48 #[.agg #[.int .i64 y0, .int .i64 y1, .int .i64 y2, .int .i64 y3, .int .i64 y4], .agg #[.int .i64 x0, .int .i64 x1, .int .i64 x2, .int .i64 x3, .int .i64 x4]] w fun e w' => e = .returned (.int .i64 cm) ∧ Below w.heap.size w w') := HCc
            clear HCc
            clear c0 c1 c2 c3 c4
            go_region_held3 (fun w' => w'.cell? ⟨q0, 0, none⟩ = some (.int .i64 x0) ∧ w'.cell? ⟨q0, 1, none⟩ = some (.int .i64 x1) ∧ w'.cell? ⟨q0, 2, none⟩ = some (.int .i64 x2) ∧ w'.cell? ⟨q0, 3, none⟩ = some (.int .i64 x3) ∧ w'.cell? ⟨q0, 4, none⟩ = some (.int .i64 x4) ∧ w'.cell? ⟨b, off + m * 5, none⟩ = some (.int .i64 y0) ∧ w'.cell? ⟨b, off + m * 5 + 1, none⟩ = some (.int .i64 y1) ∧ w'.cell? ⟨b, off + m * 5 + 2, none⟩ = some (.int .i64 y2) ∧ w'.cell? ⟨b, off + m * 5 + 3, none⟩ = some (.int .i64 y3) ∧ w'.cell? ⟨b, off + m * 5 + 4, none⟩ = some (.int .i64 y4))
              (first | exact ⟨e0, e1, e2, e3, e4, d0, d1, d2, d3, d4⟩ | exact ⟨keep e0 (by assumption), keep e1 (by assumption), keep e2 (by assumption), keep e3 (by assumption), keep e4 (by assumption), keep d0 (by assumption), keep d1 (by assumption), keep d2 (by assumption), keep d3 (by assumption), keep d4 (by assumption)⟩)
              (first | (go_at_call 50; refine (HPP.out _).mono ?_; rintro e w1 ⟨rfl, hb1⟩; have hb1 := below_of_drew hb1) | (go_at_call 48; refine (HCC.out _).mono ?_; rintro e w2 ⟨rfl, hb2⟩; have hb2 := Below.trans hb1 (hb2.mono hb1.size)))
            have HBL := Lib.hid (HB.out.trans ((HB1.out.trans (hb2.mono (by rw [← HQ.out]; exact HB1.out.size))).mono (by rw [← HQ.out]; exact HB.out.size)))
            clear hb1 hb2
            go_wp2_with fail
            go_roundw
            case rel => exact ⟨m + 1 + 1, by omega, by go_num, HN1.out, HBL.out⟩
            case measure => simp [intOf]; omega
          · have hge : decide (cm ≥ 0) = true := by simp; omega
            have hge' : 0 ≤ cm := by omega
            have HE := Lib.hid (HBk.out (by rw [hbs, decide_eq_false hlt2]; rfl))
            clear hbs
            have hb1 := (Below.refl wr.heap.size wr).alloc (Nat.le_refl _) (.cells #[.int .i64 x0, .int .i64 x1, .int .i64 x2, .int .i64 x3, .int .i64 x4] 38)
            have e0 : (wr.alloc (.cells #[.int .i64 x0, .int .i64 x1, .int .i64 x2, .int .i64 x3, .int .i64 x4] 38)).cell? ⟨wr.heap.size, 0, none⟩ = some (.int .i64 x0) := by simp [go_sem]
            have e1 : (wr.alloc (.cells #[.int .i64 x0, .int .i64 x1, .int .i64 x2, .int .i64 x3, .int .i64 x4] 38)).cell? ⟨wr.heap.size, 1, none⟩ = some (.int .i64 x1) := by simp [go_sem]
            have e2 : (wr.alloc (.cells #[.int .i64 x0, .int .i64 x1, .int .i64 x2, .int .i64 x3, .int .i64 x4] 38)).cell? ⟨wr.heap.size, 2, none⟩ = some (.int .i64 x2) := by simp [go_sem]
            have e3 : (wr.alloc (.cells #[.int .i64 x0, .int .i64 x1, .int .i64 x2, .int .i64 x3, .int .i64 x4] 38)).cell? ⟨wr.heap.size, 3, none⟩ = some (.int .i64 x3) := by simp [go_sem]
            have e4 : (wr.alloc (.cells #[.int .i64 x0, .int .i64 x1, .int .i64 x2, .int .i64 x3, .int .i64 x4] 38)).cell? ⟨wr.heap.size, 4, none⟩ = some (.int .i64 x4) := by simp [go_sem]
            replace d0 := keep d0 hb1
            replace d1 := keep d1 hb1
            replace d2 := keep d2 hb1
            replace d3 := keep d3 hb1
            replace d4 := keep d4 hb1
            have HB1 := Lib.hid hb1
            clear hb1
            go_wp2_with fail
            generalize wr.alloc (.cells #[.int .i64 x0, .int .i64 x1, .int .i64 x2, .int .i64 x3, .int .i64 x4] 38) = w0 at *
            generalize hq : wr.heap.size = q0 at *
            have HQ := Lib.hid hq; clear hq
            have HPc := Lib.hid (isPlace_is HP.out)
            have HPP : Hid (∀ w, Calls Try.prog 50 #[.agg #[.int .i64 x0, .int .i64 x1, .int .i64 x2, .int .i64 x3, .int .i64 x4]] w fun e w' => e = .returned (.bool true) ∧ Below w.heap.size w w') := HPc
            clear HPc
            have HCc := Lib.hid (compare_is HCM.out)
            have HCC : Hid (∀ w, Calls Try.prog 48 #[.agg #[.int .i64 y0, .int .i64 y1, .int .i64 y2, .int .i64 y3, .int .i64 y4], .agg #[.int .i64 x0, .int .i64 x1, .int .i64 x2, .int .i64 x3, .int .i64 x4]] w fun e w' => e = .returned (.int .i64 cm) ∧ Below w.heap.size w w') := HCc
            clear HCc
            clear c0 c1 c2 c3 c4
            go_region_held3 (fun w' => w'.cell? ⟨q0, 0, none⟩ = some (.int .i64 x0) ∧ w'.cell? ⟨q0, 1, none⟩ = some (.int .i64 x1) ∧ w'.cell? ⟨q0, 2, none⟩ = some (.int .i64 x2) ∧ w'.cell? ⟨q0, 3, none⟩ = some (.int .i64 x3) ∧ w'.cell? ⟨q0, 4, none⟩ = some (.int .i64 x4) ∧ w'.cell? ⟨b, off + m * 5, none⟩ = some (.int .i64 y0) ∧ w'.cell? ⟨b, off + m * 5 + 1, none⟩ = some (.int .i64 y1) ∧ w'.cell? ⟨b, off + m * 5 + 2, none⟩ = some (.int .i64 y2) ∧ w'.cell? ⟨b, off + m * 5 + 3, none⟩ = some (.int .i64 y3) ∧ w'.cell? ⟨b, off + m * 5 + 4, none⟩ = some (.int .i64 y4))
              (first | exact ⟨e0, e1, e2, e3, e4, d0, d1, d2, d3, d4⟩ | exact ⟨keep e0 (by assumption), keep e1 (by assumption), keep e2 (by assumption), keep e3 (by assumption), keep e4 (by assumption), keep d0 (by assumption), keep d1 (by assumption), keep d2 (by assumption), keep d3 (by assumption), keep d4 (by assumption)⟩)
              (first | (go_at_call 50; refine (HPP.out _).mono ?_; rintro e w1 ⟨rfl, hb1⟩; have hb1 := below_of_drew hb1) | (go_at_call 48; refine (HCC.out _).mono ?_; rintro e w2 ⟨rfl, hb2⟩; have hb2 := Below.trans hb1 (hb2.mono hb1.size)))
            have HBL := Lib.hid (HB.out.trans ((HB1.out.trans (hb2.mono (by rw [← HQ.out]; exact HB1.out.size))).mono (by rw [← HQ.out]; exact HB.out.size)))
            clear hb1 hb2
            go_wp2_with fail
            go_ret
            exact ⟨ret_int HE.out.symm, HBL.out⟩
    · obtain rfl : k = l.length := by omega
      have hki : ¬ (l.length : Int) < (l.length : Int) := by omega
      have HHit := Lib.hid (HHit.out HN.out)
      have HOk := Lib.hid (HOk.out HN.out)
      clear HBad
      go_wp2_with fail
      go_loopw [37] (fun i ws => ∃ k : Nat, k ≤ l.length ∧ i = .int .i64 k ∧ (∀ j, j < k → hitAt l j = false) ∧ Below w.heap.size w ws) (fun i _ => l.length - (intOf i).toNat)
      case atStart => exact ⟨0, Nat.zero_le _, rfl, fun j hj => absurd hj (Nat.not_lt_zero _), HB.out⟩
      case round =>
        obtain ⟨k, hk, rfl, hny2, hb2⟩ := hrel
        have HB2 := Lib.hid hb2; have HN2 := Lib.hid hny2; clear hny2 hb2
        by_cases hlt : k < l.length
        · obtain ⟨b, off, rfl, hc⟩ := HI.out.below HB2.out k hlt
          have HNext : Hid (hitAt l k = false → ∀ j, j < k + 1 → hitAt l j = false) := Lib.hid fun h j hj => by
            by_cases e : j = k
            · rw [e]; exact h
            · exact HN2.out j (by omega)
          have HHk := Lib.hid (HHit.out k hlt)
          have hlen : (l.take k).length = k := by rw [List.length_take]; omega
          have HBx := Lib.hid (fun o => HB2.out.alloc (HB2.out.size) o)
          have HCon : Hid (∀ W q, Below w.heap.size w W → PlAt W q 0 (at' l k) → Calls Try.prog 51 #[.slice (some ⟨b, off, none⟩) k cap, .func (.func 52) #[] #[.pointer (some ⟨q, 0, none⟩)]] W fun e w' => e = .returned (.bool (hitAt l k)) ∧ Below W.heap.size W w') := Lib.hid fun W q h1 h2 => by
            have := con_any 52 #[.pointer (some ⟨q, 0, none⟩)] val1_enter (clash (at' l k)) (l.take k) (some ⟨b, off, none⟩) cap W ((HI.out.below h1).take k) (by omega) (fun j W' hj hb => val1_any (at' l k) _ q W' (h2.keep hb))
            rw [hlen] at this
            exact this
          have hx5 : PlAt (wr.alloc (.cells #[.int .i64 (at' l k).fr, .int .i64 (at' l k).to, .int .i64 (at' l k).va, .int .i64 (at' l k).ki, .int .i64 (at' l k).nn] 38)) wr.heap.size 0 (at' l k) := ⟨by simp [go_sem], by simp [go_sem], by simp [go_sem], by simp [go_sem], by simp [go_sem]⟩
          have HCon := Lib.hid (HCon.out _ _ (HBx.out _) hx5)
          clear hx5
          generalize hx : at' l k = x at *
          have HX := Lib.hid hx; clear hx
          obtain ⟨x0, x1, x2, x3, x4⟩ := x
          obtain ⟨c0, c1, c2, c3, c4⟩ := hc
          simp only at c0 c1 c2 c3 c4
          simp only at HCon
          have hki : (k : Int) < l.length := by omega
          have hkc : (k : Int) ≤ cap := by omega
          clear hlen
          cases hH : hitAt l k
          · have HN3 := Lib.hid (HNext.out hH)
            rw [hH] at HCon
            clear hH
            go_wp2_with (first | (go_at_call 51; refine HCon.out.mono ?_; rintro e w5 ⟨rfl, hb5⟩))
            go_roundw
            case rel => exact ⟨k + 1, by omega, by go_num, HN3.out, (HBx.out _).trans (hb5.mono (HBx.out _).size)⟩
            case measure => simp [intOf]; omega
          · have HE := Lib.hid (HHk.out hH)
            rw [hH] at HCon
            clear hH
            go_wp2_with (first | (go_at_call 51; refine HCon.out.mono ?_; rintro e w5 ⟨rfl, hb5⟩))
            go_ret
            exact ⟨ret_int HE.out.symm, (HBx.out _).trans (hb5.mono (HBx.out _).size)⟩
        · have HE := Lib.hid (HOk.out fun j hj => HN2.out j (by omega))
          have hki : ¬ (k : Int) < l.length := by omega
          go_wp2_with fail
          go_ret
          exact ⟨ret_int HE.out.symm, HB2.out⟩
end Go.Proofs.Ytmhneonebjcieaa
