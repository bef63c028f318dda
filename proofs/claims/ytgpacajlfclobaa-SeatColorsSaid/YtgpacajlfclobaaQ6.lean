/- The walk of the closure of an edge. -/
import Derived.Test.YtgpacajlfclobaaQ4
namespace Go.Proofs.Ytgpacajlfclobaa
open Go.RowKit

set_option maxRecDepth 100000 in
set_option maxHeartbeats 4000000 in
theorem touch_a (x y c gx n q pa po pc : Nat) (w : World) (ha : w.cell? ⟨pa, 0, none⟩ = some (.int .i64 (x : Nat))) (ho : w.cell? ⟨po, 0, none⟩ = some (.slice (some ⟨q, 0, none⟩) n n)) (hc : w.cell? ⟨pc, 0, none⟩ = some (.int .i64 (c : Nat)))
    (d1 : w.cell? ⟨q, x, none⟩ = some (.int .i64 (gx : Nat))) (d2 : w.cell? ⟨q, y, none⟩ = some (.int .i64 (c : Nat))) (hf : (x : Int) < (n : Int) ∧ (y : Int) < (n : Int) ∧ (y : Int) < (x : Int)) :
    Calls Try.prog 38 #[.agg #[.int .i64 (x : Nat), .int .i64 (y : Nat)], .pointer (some ⟨pa, 0, none⟩), .pointer (some ⟨po, 0, none⟩), .pointer (some ⟨pc, 0, none⟩)] w fun e w' => e = .returned (.bool true) ∧ Below w.heap.size w w' := by
  have hb0 : Below w.heap.size w (w.alloc (.cells #[.int .i64 (x : Nat), .int .i64 (y : Nat)] 56)) := (Below.refl _ _).alloc (Nat.le_refl _) _
  have c0 : (w.alloc (.cells #[.int .i64 (x : Nat), .int .i64 (y : Nat)] 56)).cell? ⟨w.heap.size, 0, none⟩ = some (.int .i64 (x : Nat)) := by simp [go_sem]
  have c1 : (w.alloc (.cells #[.int .i64 (x : Nat), .int .i64 (y : Nat)] 56)).cell? ⟨w.heap.size, 1, none⟩ = some (.int .i64 (y : Nat)) := by simp [go_sem]
  obtain ⟨hxi, hyi, hyl⟩ := hf
  have hyl' : decide ((y : Int) < (x : Int)) = true := decide_eq_true hyl
  replace ha := keep ha hb0
  replace ho := keep ho hb0
  replace hc := keep hc hb0
  replace d1 := keep d1 hb0
  replace d2 := keep d2 hb0
  have HB0 := Lib.hid hb0
  clear hb0
  go_enter Try.func38, Try.ntmps38
  go_wp2_with fail
  generalize w.alloc (.cells #[.int .i64 (x : Nat), .int .i64 (y : Nat)] 56) = w0 at *
  generalize hq : w.heap.size = q0 at *
  have HQ := Lib.hid hq; clear hq
  go_quiet (fail)
  go_wp2_with fail
  go_ret
  exact ⟨rfl, by rw [HQ.out]; exact below_drewN HB0.out _⟩
set_option maxRecDepth 100000 in
set_option maxHeartbeats 4000000 in
theorem touch_b (x y c gx gy n q pa po pc : Nat) (w : World) (ha : w.cell? ⟨pa, 0, none⟩ = some (.int .i64 (x : Nat))) (ho : w.cell? ⟨po, 0, none⟩ = some (.slice (some ⟨q, 0, none⟩) n n)) (hc : w.cell? ⟨pc, 0, none⟩ = some (.int .i64 (c : Nat)))
    (d1 : w.cell? ⟨q, x, none⟩ = some (.int .i64 (gx : Nat))) (d2 : w.cell? ⟨q, y, none⟩ = some (.int .i64 (gy : Nat))) (hf : (x : Int) < (n : Int) ∧ (y : Int) < (n : Int) ∧ (y : Int) < (x : Int) ∧ ¬ (y : Int) = (x : Int) ∧ ¬ (gy : Int) = (c : Int)) :
    Calls Try.prog 38 #[.agg #[.int .i64 (x : Nat), .int .i64 (y : Nat)], .pointer (some ⟨pa, 0, none⟩), .pointer (some ⟨po, 0, none⟩), .pointer (some ⟨pc, 0, none⟩)] w fun e w' => e = .returned (.bool false) ∧ Below w.heap.size w w' := by
  have hb0 : Below w.heap.size w (w.alloc (.cells #[.int .i64 (x : Nat), .int .i64 (y : Nat)] 56)) := (Below.refl _ _).alloc (Nat.le_refl _) _
  have c0 : (w.alloc (.cells #[.int .i64 (x : Nat), .int .i64 (y : Nat)] 56)).cell? ⟨w.heap.size, 0, none⟩ = some (.int .i64 (x : Nat)) := by simp [go_sem]
  have c1 : (w.alloc (.cells #[.int .i64 (x : Nat), .int .i64 (y : Nat)] 56)).cell? ⟨w.heap.size, 1, none⟩ = some (.int .i64 (y : Nat)) := by simp [go_sem]
  obtain ⟨hxi, hyi, hyl, hyv, hgy⟩ := hf
  have hyl' : decide ((y : Int) < (x : Int)) = true := decide_eq_true hyl
  have hyv' : ((y : Int) == (x : Int)) = false := beq_eq_false_iff_ne.2 hyv
  have hgy' : ((gy : Int) == (c : Int)) = false := beq_eq_false_iff_ne.2 hgy
  replace ha := keep ha hb0
  replace ho := keep ho hb0
  replace hc := keep hc hb0
  replace d1 := keep d1 hb0
  replace d2 := keep d2 hb0
  have HB0 := Lib.hid hb0
  clear hb0
  go_enter Try.func38, Try.ntmps38
  go_wp2_with fail
  generalize w.alloc (.cells #[.int .i64 (x : Nat), .int .i64 (y : Nat)] 56) = w0 at *
  generalize hq : w.heap.size = q0 at *
  have HQ := Lib.hid hq; clear hq
  go_quiet (fail)
  go_wp2_with fail
  go_ret
  exact ⟨rfl, by rw [HQ.out]; exact below_drewN HB0.out _⟩
set_option maxRecDepth 100000 in
set_option maxHeartbeats 4000000 in
theorem touch_c (x y c gx gy n q pa po pc : Nat) (w : World) (ha : w.cell? ⟨pa, 0, none⟩ = some (.int .i64 (x : Nat))) (ho : w.cell? ⟨po, 0, none⟩ = some (.slice (some ⟨q, 0, none⟩) n n)) (hc : w.cell? ⟨pc, 0, none⟩ = some (.int .i64 (c : Nat)))
    (d1 : w.cell? ⟨q, x, none⟩ = some (.int .i64 (gx : Nat))) (d2 : w.cell? ⟨q, y, none⟩ = some (.int .i64 (gy : Nat))) (hf : (x : Int) < (n : Int) ∧ (y : Int) < (n : Int) ∧ ¬ (y : Int) < (x : Int) ∧ ¬ (y : Int) = (x : Int)) :
    Calls Try.prog 38 #[.agg #[.int .i64 (x : Nat), .int .i64 (y : Nat)], .pointer (some ⟨pa, 0, none⟩), .pointer (some ⟨po, 0, none⟩), .pointer (some ⟨pc, 0, none⟩)] w fun e w' => e = .returned (.bool false) ∧ Below w.heap.size w w' := by
  have hb0 : Below w.heap.size w (w.alloc (.cells #[.int .i64 (x : Nat), .int .i64 (y : Nat)] 56)) := (Below.refl _ _).alloc (Nat.le_refl _) _
  have c0 : (w.alloc (.cells #[.int .i64 (x : Nat), .int .i64 (y : Nat)] 56)).cell? ⟨w.heap.size, 0, none⟩ = some (.int .i64 (x : Nat)) := by simp [go_sem]
  have c1 : (w.alloc (.cells #[.int .i64 (x : Nat), .int .i64 (y : Nat)] 56)).cell? ⟨w.heap.size, 1, none⟩ = some (.int .i64 (y : Nat)) := by simp [go_sem]
  obtain ⟨hxi, hyi, hyl, hyv⟩ := hf
  have hyl' : decide ((y : Int) < (x : Int)) = false := decide_eq_false hyl
  have hyl2 : ¬ y < x := by omega
  have hyv' : ((y : Int) == (x : Int)) = false := beq_eq_false_iff_ne.2 hyv
  replace ha := keep ha hb0
  replace ho := keep ho hb0
  replace hc := keep hc hb0
  replace d1 := keep d1 hb0
  replace d2 := keep d2 hb0
  have HB0 := Lib.hid hb0
  clear hb0
  go_enter Try.func38, Try.ntmps38
  go_wp2_with fail
  generalize w.alloc (.cells #[.int .i64 (x : Nat), .int .i64 (y : Nat)] 56) = w0 at *
  generalize hq : w.heap.size = q0 at *
  have HQ := Lib.hid hq; clear hq
  go_quiet (fail)
  go_wp2_with fail
  go_ret
  exact ⟨rfl, by rw [HQ.out]; exact below_drewN HB0.out _⟩
set_option maxRecDepth 100000 in
set_option maxHeartbeats 4000000 in
theorem touch_d (x y c gy n q pa po pc : Nat) (w : World) (ha : w.cell? ⟨pa, 0, none⟩ = some (.int .i64 (y : Nat))) (ho : w.cell? ⟨po, 0, none⟩ = some (.slice (some ⟨q, 0, none⟩) n n)) (hc : w.cell? ⟨pc, 0, none⟩ = some (.int .i64 (c : Nat)))
    (d1 : w.cell? ⟨q, x, none⟩ = some (.int .i64 (c : Nat))) (d2 : w.cell? ⟨q, y, none⟩ = some (.int .i64 (gy : Nat))) (hf : (x : Int) < (n : Int) ∧ (y : Int) < (n : Int) ∧ ¬ (x : Int) = (y : Int) ∧ (x : Int) < (y : Int)) :
    Calls Try.prog 38 #[.agg #[.int .i64 (x : Nat), .int .i64 (y : Nat)], .pointer (some ⟨pa, 0, none⟩), .pointer (some ⟨po, 0, none⟩), .pointer (some ⟨pc, 0, none⟩)] w fun e w' => e = .returned (.bool true) ∧ Below w.heap.size w w' := by
  have hb0 : Below w.heap.size w (w.alloc (.cells #[.int .i64 (x : Nat), .int .i64 (y : Nat)] 56)) := (Below.refl _ _).alloc (Nat.le_refl _) _
  have c0 : (w.alloc (.cells #[.int .i64 (x : Nat), .int .i64 (y : Nat)] 56)).cell? ⟨w.heap.size, 0, none⟩ = some (.int .i64 (x : Nat)) := by simp [go_sem]
  have c1 : (w.alloc (.cells #[.int .i64 (x : Nat), .int .i64 (y : Nat)] 56)).cell? ⟨w.heap.size, 1, none⟩ = some (.int .i64 (y : Nat)) := by simp [go_sem]
  obtain ⟨hxi, hyi, hxv, hxl⟩ := hf
  have hxv' : ((x : Int) == (y : Int)) = false := beq_eq_false_iff_ne.2 hxv
  have hxl' : decide ((x : Int) < (y : Int)) = true := decide_eq_true hxl
  replace ha := keep ha hb0
  replace ho := keep ho hb0
  replace hc := keep hc hb0
  replace d1 := keep d1 hb0
  replace d2 := keep d2 hb0
  have HB0 := Lib.hid hb0
  clear hb0
  go_enter Try.func38, Try.ntmps38
  go_wp2_with fail
  generalize w.alloc (.cells #[.int .i64 (x : Nat), .int .i64 (y : Nat)] 56) = w0 at *
  generalize hq : w.heap.size = q0 at *
  have HQ := Lib.hid hq; clear hq
  go_quiet (fail)
  go_wp2_with fail
  go_ret
  exact ⟨rfl, by rw [HQ.out]; exact below_drewN HB0.out _⟩
set_option maxRecDepth 100000 in
set_option maxHeartbeats 4000000 in
theorem touch_e (x y c gx gy n q pa po pc : Nat) (w : World) (ha : w.cell? ⟨pa, 0, none⟩ = some (.int .i64 (y : Nat))) (ho : w.cell? ⟨po, 0, none⟩ = some (.slice (some ⟨q, 0, none⟩) n n)) (hc : w.cell? ⟨pc, 0, none⟩ = some (.int .i64 (c : Nat)))
    (d1 : w.cell? ⟨q, x, none⟩ = some (.int .i64 (gx : Nat))) (d2 : w.cell? ⟨q, y, none⟩ = some (.int .i64 (gy : Nat))) (hf : (x : Int) < (n : Int) ∧ (y : Int) < (n : Int) ∧ ¬ (x : Int) = (y : Int) ∧ (x : Int) < (y : Int) ∧ ¬ (gx : Int) = (c : Int)) :
    Calls Try.prog 38 #[.agg #[.int .i64 (x : Nat), .int .i64 (y : Nat)], .pointer (some ⟨pa, 0, none⟩), .pointer (some ⟨po, 0, none⟩), .pointer (some ⟨pc, 0, none⟩)] w fun e w' => e = .returned (.bool false) ∧ Below w.heap.size w w' := by
  have hb0 : Below w.heap.size w (w.alloc (.cells #[.int .i64 (x : Nat), .int .i64 (y : Nat)] 56)) := (Below.refl _ _).alloc (Nat.le_refl _) _
  have c0 : (w.alloc (.cells #[.int .i64 (x : Nat), .int .i64 (y : Nat)] 56)).cell? ⟨w.heap.size, 0, none⟩ = some (.int .i64 (x : Nat)) := by simp [go_sem]
  have c1 : (w.alloc (.cells #[.int .i64 (x : Nat), .int .i64 (y : Nat)] 56)).cell? ⟨w.heap.size, 1, none⟩ = some (.int .i64 (y : Nat)) := by simp [go_sem]
  obtain ⟨hxi, hyi, hxv, hxl, hgx⟩ := hf
  have hxv' : ((x : Int) == (y : Int)) = false := beq_eq_false_iff_ne.2 hxv
  have hxl' : decide ((x : Int) < (y : Int)) = true := decide_eq_true hxl
  have hgx' : ((gx : Int) == (c : Int)) = false := beq_eq_false_iff_ne.2 hgx
  replace ha := keep ha hb0
  replace ho := keep ho hb0
  replace hc := keep hc hb0
  replace d1 := keep d1 hb0
  replace d2 := keep d2 hb0
  have HB0 := Lib.hid hb0
  clear hb0
  go_enter Try.func38, Try.ntmps38
  go_wp2_with fail
  generalize w.alloc (.cells #[.int .i64 (x : Nat), .int .i64 (y : Nat)] 56) = w0 at *
  generalize hq : w.heap.size = q0 at *
  have HQ := Lib.hid hq; clear hq
  go_quiet (fail)
  go_wp2_with fail
  go_ret
  exact ⟨rfl, by rw [HQ.out]; exact below_drewN HB0.out _⟩
set_option maxRecDepth 100000 in
set_option maxHeartbeats 4000000 in
theorem touch_f (x y c gx gy n q pa po pc : Nat) (w : World) (ha : w.cell? ⟨pa, 0, none⟩ = some (.int .i64 (y : Nat))) (ho : w.cell? ⟨po, 0, none⟩ = some (.slice (some ⟨q, 0, none⟩) n n)) (hc : w.cell? ⟨pc, 0, none⟩ = some (.int .i64 (c : Nat)))
    (d1 : w.cell? ⟨q, x, none⟩ = some (.int .i64 (gx : Nat))) (d2 : w.cell? ⟨q, y, none⟩ = some (.int .i64 (gy : Nat))) (hf : (x : Int) < (n : Int) ∧ (y : Int) < (n : Int) ∧ ¬ (x : Int) = (y : Int) ∧ ¬ (x : Int) < (y : Int)) :
    Calls Try.prog 38 #[.agg #[.int .i64 (x : Nat), .int .i64 (y : Nat)], .pointer (some ⟨pa, 0, none⟩), .pointer (some ⟨po, 0, none⟩), .pointer (some ⟨pc, 0, none⟩)] w fun e w' => e = .returned (.bool false) ∧ Below w.heap.size w w' := by
  have hb0 : Below w.heap.size w (w.alloc (.cells #[.int .i64 (x : Nat), .int .i64 (y : Nat)] 56)) := (Below.refl _ _).alloc (Nat.le_refl _) _
  have c0 : (w.alloc (.cells #[.int .i64 (x : Nat), .int .i64 (y : Nat)] 56)).cell? ⟨w.heap.size, 0, none⟩ = some (.int .i64 (x : Nat)) := by simp [go_sem]
  have c1 : (w.alloc (.cells #[.int .i64 (x : Nat), .int .i64 (y : Nat)] 56)).cell? ⟨w.heap.size, 1, none⟩ = some (.int .i64 (y : Nat)) := by simp [go_sem]
  obtain ⟨hxi, hyi, hxv, hxl⟩ := hf
  have hxv' : ((x : Int) == (y : Int)) = false := beq_eq_false_iff_ne.2 hxv
  have hxl' : decide ((x : Int) < (y : Int)) = false := decide_eq_false hxl
  have hxl2 : ¬ x < y := by omega
  replace ha := keep ha hb0
  replace ho := keep ho hb0
  replace hc := keep hc hb0
  replace d1 := keep d1 hb0
  replace d2 := keep d2 hb0
  have HB0 := Lib.hid hb0
  clear hb0
  go_enter Try.func38, Try.ntmps38
  go_wp2_with fail
  generalize w.alloc (.cells #[.int .i64 (x : Nat), .int .i64 (y : Nat)] 56) = w0 at *
  generalize hq : w.heap.size = q0 at *
  have HQ := Lib.hid hq; clear hq
  go_quiet (fail)
  go_wp2_with fail
  go_ret
  exact ⟨rfl, by rw [HQ.out]; exact below_drewN HB0.out _⟩
set_option maxRecDepth 100000 in
set_option maxHeartbeats 4000000 in
theorem touch_g (x y v c gx gy n q pa po pc : Nat) (w : World) (ha : w.cell? ⟨pa, 0, none⟩ = some (.int .i64 (v : Nat))) (ho : w.cell? ⟨po, 0, none⟩ = some (.slice (some ⟨q, 0, none⟩) n n)) (hc : w.cell? ⟨pc, 0, none⟩ = some (.int .i64 (c : Nat)))
    (d1 : w.cell? ⟨q, x, none⟩ = some (.int .i64 (gx : Nat))) (d2 : w.cell? ⟨q, y, none⟩ = some (.int .i64 (gy : Nat))) (hf : (x : Int) < (n : Int) ∧ (y : Int) < (n : Int) ∧ ¬ (x : Int) = (v : Int) ∧ ¬ (y : Int) = (v : Int)) :
    Calls Try.prog 38 #[.agg #[.int .i64 (x : Nat), .int .i64 (y : Nat)], .pointer (some ⟨pa, 0, none⟩), .pointer (some ⟨po, 0, none⟩), .pointer (some ⟨pc, 0, none⟩)] w fun e w' => e = .returned (.bool false) ∧ Below w.heap.size w w' := by
  have hb0 : Below w.heap.size w (w.alloc (.cells #[.int .i64 (x : Nat), .int .i64 (y : Nat)] 56)) := (Below.refl _ _).alloc (Nat.le_refl _) _
  have c0 : (w.alloc (.cells #[.int .i64 (x : Nat), .int .i64 (y : Nat)] 56)).cell? ⟨w.heap.size, 0, none⟩ = some (.int .i64 (x : Nat)) := by simp [go_sem]
  have c1 : (w.alloc (.cells #[.int .i64 (x : Nat), .int .i64 (y : Nat)] 56)).cell? ⟨w.heap.size, 1, none⟩ = some (.int .i64 (y : Nat)) := by simp [go_sem]
  obtain ⟨hxi, hyi, hxv, hyv⟩ := hf
  have hxv' : ((x : Int) == (v : Int)) = false := beq_eq_false_iff_ne.2 hxv
  have hyv' : ((y : Int) == (v : Int)) = false := beq_eq_false_iff_ne.2 hyv
  replace ha := keep ha hb0
  replace ho := keep ho hb0
  replace hc := keep hc hb0
  replace d1 := keep d1 hb0
  replace d2 := keep d2 hb0
  have HB0 := Lib.hid hb0
  clear hb0
  go_enter Try.func38, Try.ntmps38
  go_wp2_with fail
  generalize w.alloc (.cells #[.int .i64 (x : Nat), .int .i64 (y : Nat)] 56) = w0 at *
  generalize hq : w.heap.size = q0 at *
  have HQ := Lib.hid hq; clear hq
  go_quiet (fail)
  go_wp2_with fail
  go_ret
  exact ⟨rfl, by rw [HQ.out]; exact below_drewN HB0.out _⟩
end Go.Proofs.Ytgpacajlfclobaa
