/- Walks of SameInts, SameEdges, Has, Long. -/
import Derived.Test.YtmljmmnofhhheaaWK
namespace Go.Proofs.Ytmljmmnofhhheaa
open Go.RowKit

/-- The first k are equal. -/
def SameTo {α : Type} (d : α) (xs ys : List α) (k : Nat) : Prop := ∀ i, i < k → xs.getD i d = ys.getD i d
theorem SameTo.zero {α : Type} {d : α} {xs ys : List α} : SameTo d xs ys 0 := fun _ h => absurd h (Nat.not_lt_zero _)
theorem SameTo.next {α : Type} {d : α} {xs ys : List α} {k : Nat} (h : SameTo d xs ys k) (e : xs.getD k d = ys.getD k d) : SameTo d xs ys (k + 1) := fun i hi => by
  rcases Nat.lt_or_ge i k with c | c
  · exact h i c
  · obtain rfl : i = k := by omega
    exact e
theorem SameTo.fin {α : Type} {d : α} {xs ys : List α} (hl : xs.length = ys.length) (h : SameTo d xs ys xs.length) : xs = ys := by
  apply List.ext_getElem hl
  intro i h1 h2
  have := h i h1
  simpa [List.getD_eq_getElem?_getD, List.getElem?_eq_getElem h1, List.getElem?_eq_getElem h2] using this

set_option maxHeartbeats 1000000 in
theorem sameInts_any (xs ys : List Nat) (a b : Option Addr) (ca cb : Nat) (w : World) (ha : NatsIn w a xs) (hb : NatsIn w b ys) (hl : xs.length ≤ 1000) :
    Calls Try.prog 21 #[.slice a xs.length ca, .slice b ys.length cb] w fun e w' => e = .returned (.bool (decide (xs = ys))) ∧ Below w.heap.size w w' := by
  by_cases he : xs.length = ys.length
  · have hyes : SameTo 0 xs ys xs.length → decide (xs = ys) = true := fun h => by simpa using h.fin he
    have hno : ∀ k, xs.getD k 0 ≠ ys.getD k 0 → decide (xs = ys) = false := fun k h => by simpa using fun e => h (by rw [e])
    have HYes := Lib.hid hyes; have HNo := Lib.hid hno
    clear hyes hno
    generalize decide (xs = ys) = V at *
    have HA := Lib.hid ha; have HB := Lib.hid hb
    have heb : ((xs.length : Int) != (ys.length : Int)) = false := by simp; omega
    have HE := Lib.hid he
    clear ha hb he
    go_enter Try.func21, Try.ntmps21
    go_wp2_with fail
    go_loopw [5] (fun i wr => ∃ k : Nat, k ≤ xs.length ∧ i = .int .i64 k ∧ SameTo 0 xs ys k ∧ Below w.heap.size w wr) (fun i _ => xs.length - (intOf i).toNat)
    case atStart => exact ⟨0, Nat.zero_le _, rfl, SameTo.zero, Below.refl _ _⟩
    case round =>
      obtain ⟨k, hk, rfl, hs, hbl⟩ := hrel
      by_cases hlt : k < xs.length
      · obtain ⟨b1, o1, rfl, h1⟩ := HA.out.below hbl k hlt
        obtain ⟨b2, o2, rfl, h2⟩ := HB.out.below hbl k (by rw [← HE.out]; exact hlt)
        have HS := Lib.hid hs; have HBl := Lib.hid hbl
        have hki : (k : Int) < (xs.length : Int) := by omega
        have hki2 : (k : Int) < (ys.length : Int) := by rw [← HE.out]; exact hki
        have HN := Lib.hid (HNo.out k); have HX := Lib.hid (fun h => hs.next (k := k) h)
        clear hs hbl
        generalize xs.getD k 0 = x at *
        generalize ys.getD k 0 = y at *
        by_cases hxy : x = y
        · subst hxy
          have hb : ((x : Int) != (x : Int)) = false := by simp
          have HX1 := Lib.hid (HX.out rfl)
          go_wp2_with fail
          go_quiet (fail)
          go_wp2_with fail
          go_roundw
          case rel => exact ⟨k + 1, by omega, by go_num, HX1.out, below_drewN HBl.out _⟩
          case measure => simp [intOf]; omega
        · have hb : ((x : Int) != (y : Int)) = true := by simp; omega
          have HV := Lib.hid (HN.out hxy)
          go_wp2_with fail
          go_quiet (fail)
          go_wp2_with fail
          go_ret
          exact ⟨ret_bool HV.out.symm, below_drewN HBl.out _⟩
      · obtain rfl : k = xs.length := by omega
        have HV := Lib.hid (HYes.out hs); have HBl := Lib.hid hbl
        clear hs hbl
        go_wp2_with fail
        go_ret
        exact ⟨ret_bool HV.out.symm, HBl.out⟩
  · have hv : decide (xs = ys) = false := by simpa using fun e => he (by rw [e])
    rw [hv]
    have heb : ((xs.length : Int) != (ys.length : Int)) = true := by simp; omega
    clear ha hb hv
    generalize xs.length = n at *
    generalize ys.length = m at *
    go_enter Try.func21, Try.ntmps21
    go_wp2_with fail
    go_ret
    exact ⟨rfl, Below.refl _ _⟩

set_option maxHeartbeats 1000000 in
theorem has_any (xs : List Nat) (a : Option Addr) (ca n : Nat) (w : World) (ha : NatsIn w a xs) (hl : xs.length ≤ 1000) :
    Calls Try.prog 28 #[.slice a xs.length ca, .int .i64 n] w fun e w' => e = .returned (.bool (decide (n ∈ xs))) ∧ w = w' := by
  have hyes : ∀ k, k < xs.length → xs.getD k 0 = n → decide (n ∈ xs) = true := fun k hk h => by rw [decide_eq_true_iff, ← h]; exact getD_mem hk
  have hno : NoneYet xs (fun x => x == n) xs.length → decide (n ∈ xs) = false := fun h => by
    rw [decide_eq_false_iff_not]
    intro c
    have h1 := h.fin
    rw [← Bool.not_eq_true, List.any_eq_true] at h1
    exact h1 ⟨n, c, by simp⟩
  have HYes := Lib.hid hyes; have HNo := Lib.hid hno
  clear hyes hno
  generalize decide (n ∈ xs) = V at *
  have HA := Lib.hid ha
  clear ha
  go_enter Try.func28, Try.ntmps28
  go_wp2_with fail
  go_loop [5] (fun i => ∃ k : Nat, k ≤ xs.length ∧ i = .int .i64 k ∧ NoneYet xs (fun x => x == n) k) (fun i => xs.length - (intOf i).toNat)
  case atStart => exact ⟨0, Nat.zero_le _, rfl, NoneYet.zero⟩
  case round =>
    obtain ⟨k, hk, rfl, hs⟩ := hrel
    by_cases hlt : k < xs.length
    · obtain ⟨b1, o1, rfl, h1⟩ := HA.out k hlt
      have hki : (k : Int) < (xs.length : Int) := by omega
      have HN := Lib.hid (HYes.out k hlt); have HX := Lib.hid (fun h => hs.next (k := k) (d := 0) hlt h)
      clear hs
      generalize xs.getD k 0 = x at *
      by_cases hxy : x = n
      · subst hxy
        have hb : ((x : Int) == (x : Int)) = true := by simp
        have HV := Lib.hid (HN.out rfl)
        go_wp2_with fail
        go_ret
        exact ⟨ret_bool HV.out.symm, rfl⟩
      · have hb : ((x : Int) == (n : Int)) = false := by simp; omega
        have HX1 := Lib.hid (HX.out (by simpa using hxy))
        go_wp2_with fail
        go_round
        case rel => exact ⟨k + 1, by omega, by go_num, HX1.out⟩
        case measure => simp [intOf]; omega
    · obtain rfl : k = xs.length := by omega
      have HV := Lib.hid (HNo.out hs)
      clear hs
      go_wp2_with fail
      go_ret
      exact ⟨ret_bool HV.out.symm, rfl⟩

/-- A graph is long. -/
def longB (g : List (List Int)) : Bool := g.any (fun r => decide (50 < r.length)) || decide (50 < g.length)
set_option maxHeartbeats 1000000 in
theorem long_any (g : List (List Int)) (a : Option Addr) (ca : Nat) (w : World) (ha : RowsIn w a g) (hl : g.length ≤ maxLen) (hr : ∀ k, k < g.length → (g.getD k []).length ≤ maxLen) :
    Calls Try.prog 11 #[.slice a g.length ca] w fun e w' => e = .returned (.bool (longB g)) ∧ w = w' := by
  have hyes : ∀ k, k < g.length → 50 < (g.getD k []).length → longB g = true := fun k hk h => by
    unfold longB; rw [any_here (d := []) hk (by simpa using h)]; rfl
  have hno : NoneYet g (fun r => decide (50 < r.length)) g.length → longB g = decide ((50 : Int) < g.length) := fun h => by
    unfold longB; rw [h.fin, Bool.false_or, decide_eq_decide]; omega
  unfold maxLen at hl hr
  have HYes := Lib.hid hyes; have HNo := Lib.hid hno; have HR := Lib.hid hr
  clear hyes hno hr
  generalize longB g = V at *
  have HA := Lib.hid ha
  clear ha
  go_enter Try.func11, Try.ntmps11
  go_wp2_with fail
  go_loop [3] (fun i => ∃ k : Nat, k ≤ g.length ∧ i = .int .i64 k ∧ NoneYet g (fun r => decide (50 < r.length)) k) (fun i => g.length - (intOf i).toNat)
  case atStart => exact ⟨0, Nat.zero_le _, rfl, NoneYet.zero⟩
  case round =>
    obtain ⟨k, hk, rfl, hs⟩ := hrel
    by_cases hlt : k < g.length
    · obtain ⟨b1, o1, a', cap', rfl, h1, _⟩ := HA.out k hlt
      have hki : (k : Int) < (g.length : Int) := by omega
      have HN := Lib.hid (HYes.out k hlt); have HX := Lib.hid (fun h => hs.next (k := k) (d := []) hlt h)
      have hrk := HR.out k hlt
      clear hs
      generalize g.getD k [] = x at *
      by_cases hxy : 50 < x.length
      · have hb : (50 : Int) < (x.length : Int) := by omega
        have HV := Lib.hid (HN.out hxy)
        go_wp2_with fail
        go_ret
        exact ⟨ret_bool HV.out.symm, rfl⟩
      · have hb : ¬ (50 : Int) < (x.length : Int) := by omega
        have HX1 := Lib.hid (HX.out (by simpa using hxy))
        go_wp2_with fail
        go_round
        case rel => exact ⟨k + 1, by omega, by go_num, HX1.out⟩
        case measure => simp [intOf]; omega
    · obtain rfl : k = g.length := by omega
      have HV := Lib.hid (HNo.out hs)
      clear hs
      go_wp2_with fail
      go_ret
      exact ⟨ret_bool HV.out.symm, rfl⟩

theorem part2_0 (a b : Int) (w : World) : (part 3 #[.int .i64 a, .int .i64 b] (0 * 1)).run Try.prog w = .ok (.int .i64 a) w := by kernel_rfl
theorem part2_1 (a b : Int) (w : World) : (part 3 #[.int .i64 a, .int .i64 b] (1 * 1)).run Try.prog w = .ok (.int .i64 b) w := by kernel_rfl
theorem eq_pair (a b c d : Int) (w : World) : (Op.equalIn 10000 50 (.agg #[.int .i64 a, .int .i64 b]) (.agg #[.int .i64 c, .int .i64 d])).run Try.prog w = .ok (a == c && b == d) w := by
  have hi : ∃ i, Try.prog.info? 3 = some i := by
    cases h : Try.prog.info? 3 with
    | none => exact absurd h (by have := Try.infoInt; intro c; rw [c] at this; cases this)
    | some i => exact ⟨i, rfl⟩
  obtain ⟨i, hi⟩ := hi
  rw [show (10000 : Nat) = 9998 + 1 + 1 from rfl, run_equalIn_array w (9998 + 1) _ _ (show Try.prog.underlying 50 = some (.array 2 3) from Try.underlying50) hi]
  rw [show Try.prog.cellsOf 3 = 1 from by kernel_rfl, show List.range 2 = [0, 1] from rfl]
  simp only [Op.eqItems, Sem.run_bind, Sem.run_ite, Sem.run_pure, part2_0, part2_1, Result.andThen_ok, run_equalIn_int w 9998 3 .i64 .i64 _ _ Try.underlying3]
  by_cases h1 : a = c <;> by_cases h2 : b = d <;> simp [h1, h2]

set_option maxHeartbeats 2000000 in
theorem sameEdges_any (xs ys : Pairs) (a b : Option Addr) (ca cb : Nat) (w : World) (ha : PairsIn w a xs) (hb : PairsIn w b ys) (hl : xs.length ≤ 1000) :
    Calls Try.prog 17 #[.slice a xs.length ca, .slice b ys.length cb] w fun e w' => e = .returned (.bool (decide (xs = ys))) ∧ Below w.heap.size w w' := by
  by_cases he : xs.length = ys.length
  · have hyes : SameTo (0, 0) xs ys xs.length → decide (xs = ys) = true := fun h => by simpa using h.fin he
    have hno : ∀ k, xs.getD k (0, 0) ≠ ys.getD k (0, 0) → decide (xs = ys) = false := fun k h => by simpa using fun e => h (by rw [e])
    have HYes := Lib.hid hyes; have HNo := Lib.hid hno
    clear hyes hno
    generalize decide (xs = ys) = V at *
    have HA := Lib.hid ha; have HB := Lib.hid hb
    have heb : ((xs.length : Int) != (ys.length : Int)) = false := by simp; omega
    have HE := Lib.hid he
    clear ha hb he
    go_enter Try.func17, Try.ntmps17
    go_wp2_with fail
    go_loopw [5] (fun i wr => ∃ k : Nat, k ≤ xs.length ∧ i = .int .i64 k ∧ SameTo (0, 0) xs ys k ∧ Below w.heap.size w wr) (fun i _ => xs.length - (intOf i).toNat)
    case atStart => exact ⟨0, Nat.zero_le _, rfl, SameTo.zero, Below.refl _ _⟩
    case round =>
      obtain ⟨k, hk, rfl, hs, hbl⟩ := hrel
      by_cases hlt : k < xs.length
      · obtain ⟨b1, o1, rfl, h1, h1'⟩ := HA.out.below hbl k hlt
        obtain ⟨b2, o2, rfl, h2, h2'⟩ := HB.out.below hbl k (by rw [← HE.out]; exact hlt)
        have HS := Lib.hid hs; have HBl := Lib.hid hbl
        have hki : (k : Int) < (xs.length : Int) := by omega
        have hki2 : (k : Int) < (ys.length : Int) := by rw [← HE.out]; exact hki
        have HN := Lib.hid (HNo.out k); have HX := Lib.hid (fun h => hs.next (k := k) h)
        clear hs hbl
        generalize xs.getD k (0, 0) = x at *
        generalize ys.getD k (0, 0) = y at *
        obtain ⟨x1, x2⟩ := x
        obtain ⟨y1, y2⟩ := y
        have h1 : wr.cell? ⟨b1, o1 + k * 2, none⟩ = some (.int .i64 (x1 : Nat)) := h1
        have h1' : wr.cell? ⟨b1, o1 + k * 2 + 1, none⟩ = some (.int .i64 (x2 : Nat)) := h1'
        have h2 : wr.cell? ⟨b2, o2 + k * 2, none⟩ = some (.int .i64 (y1 : Nat)) := h2
        have h2' : wr.cell? ⟨b2, o2 + k * 2 + 1, none⟩ = some (.int .i64 (y2 : Nat)) := h2'
        have HEq := eq_pair x1 x2 y1 y2
        by_cases hxy : (x1, x2) = (y1, y2)
        · obtain ⟨rfl, rfl⟩ := Prod.mk.injEq .. ▸ hxy
          have hbb : ((x1 : Int) == (x1 : Int) && (x2 : Int) == (x2 : Int)) = true := by simp
          rw [hbb] at HEq
          have HX1 := Lib.hid (HX.out rfl)
          clear hxy hbb
          go_wp2_with fail
          go_quiet (fail)
          go_wp2_with fail
          go_roundw
          case rel => exact ⟨k + 1, by omega, by go_num, HX1.out, below_drewN HBl.out _⟩
          case measure => simp [intOf]; omega
        · have hbb : ((x1 : Int) == (y1 : Int) && (x2 : Int) == (y2 : Int)) = false := by
            rw [← Bool.not_eq_true]
            intro c
            simp only [Bool.and_eq_true, beq_iff_eq] at c
            exact hxy (by rw [Prod.mk.injEq]; omega)
          rw [hbb] at HEq
          have HV := Lib.hid (HN.out hxy)
          clear hxy hbb
          go_wp2_with fail
          go_quiet (fail)
          go_wp2_with fail
          go_ret
          exact ⟨ret_bool HV.out.symm, below_drewN HBl.out _⟩
      · obtain rfl : k = xs.length := by omega
        have HV := Lib.hid (HYes.out hs); have HBl := Lib.hid hbl
        clear hs hbl
        go_wp2_with fail
        go_ret
        exact ⟨ret_bool HV.out.symm, HBl.out⟩
  · have hv : decide (xs = ys) = false := by simpa using fun e => he (by rw [e])
    rw [hv]
    have heb : ((xs.length : Int) != (ys.length : Int)) = true := by simp; omega
    clear ha hb hv
    generalize xs.length = n at *
    generalize ys.length = m at *
    go_enter Try.func17, Try.ntmps17
    go_wp2_with fail
    go_ret
    exact ⟨rfl, Below.refl _ _⟩
end Go.Proofs.Ytmljmmnofhhheaa
