/- The walk of known. -/
import Derived.Test.YtmljmmnofhhheaaWT
import Derived.Test.YtmljmmnofhhheaaWO
import Derived.Test.YtmljmmnofhhheaaWL
import Derived.Test.YtmljmmnofhhheaaM6
namespace Go.Proofs.Ytmljmmnofhhheaa
open Go.RowKit

def rows1 (w : World) : World :=
  (((w.alloc (.cells #[.int .i64 1] 3)).alloc (.cells #[.int .i64 2, .int .i64 3] 3)).alloc (.cells #[.int .i64 1] 3)).alloc
    (.cells #[.slice (some ⟨w.heap.size, 0, none⟩) 1 1, .slice (some ⟨w.heap.size + 1, 0, none⟩) 2 2, .slice (some ⟨w.heap.size + 1 + 1, 0, none⟩) 1 1, .slice none 0 0] 32)
def rows2 (w : World) : World :=
  ((w.alloc (.cells #[.int .i64 1, .int .i64 2] 3)).alloc (.cells #[.int .i64 2] 3)).alloc
    (.cells #[.slice (some ⟨w.heap.size, 0, none⟩) 2 2, .slice (some ⟨w.heap.size + 1, 0, none⟩) 1 1, .slice none 0 0] 32)
def rows3 (w : World) : World :=
  (((w.alloc (.cells #[.int .i64 1, .int .i64 2] 3)).alloc (.cells #[.int .i64 2] 3)).alloc (.cells #[.int .i64 1] 3)).alloc
    (.cells #[.slice (some ⟨w.heap.size, 0, none⟩) 2 2, .slice (some ⟨w.heap.size + 1, 0, none⟩) 1 1, .slice (some ⟨w.heap.size + 1 + 1, 0, none⟩) 1 1] 32)
theorem below4 (w : World) (a b c d : Obj) : Below w.heap.size w ((((w.alloc a).alloc b).alloc c).alloc d) :=
  ((((Below.refl _ _).alloc (Nat.le_refl _) _).alloc (by simp only [World.size_alloc]; omega) _).alloc (by simp only [World.size_alloc]; omega) _).alloc (by simp only [World.size_alloc]; omega) _
theorem below3 (w : World) (a b c : Obj) : Below w.heap.size w (((w.alloc a).alloc b).alloc c) :=
  (((Below.refl _ _).alloc (Nat.le_refl _) _).alloc (by simp only [World.size_alloc]; omega) _).alloc (by simp only [World.size_alloc]; omega) _
theorem ints0 (w : World) (a : Option Addr) : IntsIn w a [] := fun _ h => absurd h (Nat.not_lt_zero _)
theorem ints1 {w : World} {b : Nat} {x : Int} (h : w.cell? ⟨b, 0, none⟩ = some (.int .i64 x)) : IntsIn w (some ⟨b, 0, none⟩) [x] := fun k hk => by
  have hk : k < 1 := hk
  obtain rfl : k = 0 := by omega
  exact ⟨b, 0, rfl, h⟩
theorem ints2 {w : World} {b : Nat} {x y : Int} (h : w.cell? ⟨b, 0, none⟩ = some (.int .i64 x)) (h1 : w.cell? ⟨b, 1, none⟩ = some (.int .i64 y)) : IntsIn w (some ⟨b, 0, none⟩) [x, y] := fun k hk => by
  have hk : k < 2 := hk
  match k, hk with
  | 0, _ => exact ⟨b, 0, rfl, h⟩
  | 1, _ => exact ⟨b, 0, rfl, h1⟩
theorem rows1_in (w : World) : RowsIn (rows1 w) (some ⟨w.heap.size + 1 + 1 + 1, 0, none⟩) g1 := fun k hk => by
  have hk : k < 4 := hk
  match k, hk with
  | 0, _ => exact ⟨w.heap.size + 1 + 1 + 1, 0, (some ⟨w.heap.size, 0, none⟩), 1, rfl, (by unfold rows1; simp [go_sem] : (rows1 w).cell? ⟨w.heap.size + 1 + 1 + 1, 0, none⟩ = some (.slice (some ⟨w.heap.size, 0, none⟩) 1 1)), ints1 (by unfold rows1; simp [go_sem])⟩
  | 1, _ => exact ⟨w.heap.size + 1 + 1 + 1, 0, (some ⟨w.heap.size + 1, 0, none⟩), 2, rfl, (by unfold rows1; simp [go_sem] : (rows1 w).cell? ⟨w.heap.size + 1 + 1 + 1, 1, none⟩ = some (.slice (some ⟨w.heap.size + 1, 0, none⟩) 2 2)), ints2 (by unfold rows1; simp [go_sem]) (by unfold rows1; simp [go_sem])⟩
  | 2, _ => exact ⟨w.heap.size + 1 + 1 + 1, 0, (some ⟨w.heap.size + 1 + 1, 0, none⟩), 1, rfl, (by unfold rows1; simp [go_sem] : (rows1 w).cell? ⟨w.heap.size + 1 + 1 + 1, 2, none⟩ = some (.slice (some ⟨w.heap.size + 1 + 1, 0, none⟩) 1 1)), ints1 (by unfold rows1; simp [go_sem])⟩
  | 3, _ => exact ⟨w.heap.size + 1 + 1 + 1, 0, none, 0, rfl, (by unfold rows1; simp [go_sem] : (rows1 w).cell? ⟨w.heap.size + 1 + 1 + 1, 3, none⟩ = some (.slice none 0 0)), ints0 _ _⟩
theorem rows2_in (w : World) : RowsIn (rows2 w) (some ⟨w.heap.size + 1 + 1, 0, none⟩) g2 := fun k hk => by
  have hk : k < 3 := hk
  match k, hk with
  | 0, _ => exact ⟨w.heap.size + 1 + 1, 0, (some ⟨w.heap.size, 0, none⟩), 2, rfl, (by unfold rows2; simp [go_sem] : (rows2 w).cell? ⟨w.heap.size + 1 + 1, 0, none⟩ = some (.slice (some ⟨w.heap.size, 0, none⟩) 2 2)), ints2 (by unfold rows2; simp [go_sem]) (by unfold rows2; simp [go_sem])⟩
  | 1, _ => exact ⟨w.heap.size + 1 + 1, 0, (some ⟨w.heap.size + 1, 0, none⟩), 1, rfl, (by unfold rows2; simp [go_sem] : (rows2 w).cell? ⟨w.heap.size + 1 + 1, 1, none⟩ = some (.slice (some ⟨w.heap.size + 1, 0, none⟩) 1 1)), ints1 (by unfold rows2; simp [go_sem])⟩
  | 2, _ => exact ⟨w.heap.size + 1 + 1, 0, none, 0, rfl, (by unfold rows2; simp [go_sem] : (rows2 w).cell? ⟨w.heap.size + 1 + 1, 2, none⟩ = some (.slice none 0 0)), ints0 _ _⟩
theorem rows3_in (w : World) : RowsIn (rows3 w) (some ⟨w.heap.size + 1 + 1 + 1, 0, none⟩) g3 := fun k hk => by
  have hk : k < 3 := hk
  match k, hk with
  | 0, _ => exact ⟨w.heap.size + 1 + 1 + 1, 0, (some ⟨w.heap.size, 0, none⟩), 2, rfl, (by unfold rows3; simp [go_sem] : (rows3 w).cell? ⟨w.heap.size + 1 + 1 + 1, 0, none⟩ = some (.slice (some ⟨w.heap.size, 0, none⟩) 2 2)), ints2 (by unfold rows3; simp [go_sem]) (by unfold rows3; simp [go_sem])⟩
  | 1, _ => exact ⟨w.heap.size + 1 + 1 + 1, 0, (some ⟨w.heap.size + 1, 0, none⟩), 1, rfl, (by unfold rows3; simp [go_sem] : (rows3 w).cell? ⟨w.heap.size + 1 + 1 + 1, 1, none⟩ = some (.slice (some ⟨w.heap.size + 1, 0, none⟩) 1 1)), ints1 (by unfold rows3; simp [go_sem])⟩
  | 2, _ => exact ⟨w.heap.size + 1 + 1 + 1, 0, (some ⟨w.heap.size + 1 + 1, 0, none⟩), 1, rfl, (by unfold rows3; simp [go_sem] : (rows3 w).cell? ⟨w.heap.size + 1 + 1 + 1, 2, none⟩ = some (.slice (some ⟨w.heap.size + 1 + 1, 0, none⟩) 1 1)), ints1 (by unfold rows3; simp [go_sem])⟩

theorem short_of {g : List (List Int)} (h : g.length ≤ 1000) (hr : ∀ r ∈ g, r.length ≤ 1000) : Short g := ⟨h, fun k => by
  rcases Nat.lt_or_ge k g.length with c | c
  · exact hr _ (getD_mem_any [] c)
  · rw [getD_out [] c]; exact Nat.zero_le _⟩
theorem short_g1 : Short g1 := short_of (by decide) (by decide)
theorem short_g2 : Short g2 := short_of (by decide) (by decide)
theorem short_g3 : Short g3 := short_of (by decide) (by decide)
theorem nats2 {w : World} {b : Nat} {x y : Nat} (h : w.cell? ⟨b, 0, none⟩ = some (.int .i64 (x : Nat))) (h1 : w.cell? ⟨b, 1, none⟩ = some (.int .i64 (y : Nat))) : NatsIn w (some ⟨b, 0, none⟩) [x, y] := fun k hk => by
  have hk : k < 2 := hk
  match k, hk with
  | 0, _ => exact ⟨b, 0, rfl, h⟩
  | 1, _ => exact ⟨b, 0, rfl, h1⟩
theorem nats4 {w : World} {b : Nat} {x y z u : Nat} (h : w.cell? ⟨b, 0, none⟩ = some (.int .i64 (x : Nat))) (h1 : w.cell? ⟨b, 1, none⟩ = some (.int .i64 (y : Nat))) (h2 : w.cell? ⟨b, 2, none⟩ = some (.int .i64 (z : Nat))) (h3 : w.cell? ⟨b, 3, none⟩ = some (.int .i64 (u : Nat))) : NatsIn w (some ⟨b, 0, none⟩) [x, y, z, u] := fun k hk => by
  have hk : k < 4 := hk
  match k, hk with
  | 0, _ => exact ⟨b, 0, rfl, h⟩
  | 1, _ => exact ⟨b, 0, rfl, h1⟩
  | 2, _ => exact ⟨b, 0, rfl, h2⟩
  | 3, _ => exact ⟨b, 0, rfl, h3⟩

set_option maxRecDepth 100000 in
set_option maxHeartbeats 4000000 in
theorem known_any (w : World) : Calls Try.prog 12 #[] w fun e w' => e = .returned (.bool true) ∧ Below w.heap.size w w' := by
  have HO := Lib.hid (Order_any g1 _ 4 (rows1 w) (rows1_in w) short_g1)
  have hb0 : Below w.heap.size w (rows1 w) := below4 _ _ _ _ _
  have HB0 := Lib.hid hb0
  rw [v1, known_order] at HO
  have HR1 := Lib.hid (rows1_in w)
  unfold rows1 at HO HB0 HR1
  clear hb0
  go_enter Try.func12, Try.ntmps12
  go_wp2_with fail
  refine HO.out.mono ?_; rintro e w1 ⟨x1, rfl, hx1, hb1⟩
  have HL := Lib.hid (Loop_any g1 _ 4 1 w1 (HR1.out.below hb1) short_g1)
  rw [known_loop, known_loopE] at HL
  have HB1 := Lib.hid (HB0.out.trans (hb1.mono HB0.out.size)); have HX1 := Lib.hid hx1
  clear hb1 hx1 HO HB0 HR1
  go_wp2_with fail
  refine HL.out.mono ?_; rintro e w2 ⟨x2, rfl, hx2, hb2⟩
  have HC := Lib.hid (Critical_any g2 _ 3 (rows2 w2) (rows2_in w2) short_g2)
  rw [known_crit, v2] at HC
  have hb23 : Below w2.heap.size w2 (rows2 w2) := below3 _ _ _ _
  have HB2 := Lib.hid (HB1.out.trans (hb2.mono HB1.out.size)); have HX2 := Lib.hid hx2; have HX1b := Lib.hid (HX1.out.below hb2); have HB23 := Lib.hid hb23
  unfold rows2 at HC HB23
  clear hb2 hx2 HB1 HL hb23 HX1
  go_wp2_with fail
  refine HC.out.mono ?_; rintro e w3 ⟨x3, rfl, hx3, hb3⟩
  have hb3' := HB23.out.trans (hb3.mono HB23.out.size)
  have HR := Lib.hid (IsReducible_any g3 _ 3 (rows3 w3) (rows3_in w3) short_g3)
  rw [known_red, v3] at HR
  have hb34 : Below w3.heap.size w3 (rows3 w3) := below4 _ _ _ _ _
  have HB3 := Lib.hid (HB2.out.trans (hb3'.mono HB2.out.size)); have HX3 := Lib.hid hx3; have HX1c := Lib.hid (HX1b.out.below hb3'); have HX2c := Lib.hid (HX2.out.below hb3'); have HB34 := Lib.hid hb34
  unfold rows3 at HR HB34
  clear hb3 hb3' hx3 HB2 HC HX1b HX2 HB23 hb34
  go_wp2_with fail
  refine HR.out.mono ?_; rintro e w4 ⟨rfl, hb4⟩
  have hb4' := HB34.out.trans (hb4.mono HB34.out.size)
  obtain ⟨a1, c1, rfl, h1⟩ := HX1c.out.below hb4'
  obtain ⟨a2, c2, rfl, h2⟩ := HX2c.out.below hb4'
  obtain ⟨a3, c3, rfl, h3⟩ := HX3.out.below hb4'
  have HB4 := Lib.hid (HB3.out.trans (hb4'.mono HB3.out.size))
  have H1 := Lib.hid h1; have H2 := Lib.hid h2; have H3 : Hid (PairsIn w4 a3 [(0, 2)]) := Lib.hid h3
  clear h1 h2 h3 hb4 hb4' HB3 HX1c HX2c HX3 HB34 HR
  go_wp2_with fail
  have hal : Below w4.heap.size w4 (w4.alloc (.cells #[.int .i64 0, .int .i64 1, .int .i64 3, .int .i64 2] 3)) := (Below.refl _ _).alloc (Nat.le_refl _) _
  have hs1 := sameInts_any [0, 1, 3, 2] [0, 1, 3, 2] a1 (some ⟨w4.heap.size, 0, none⟩) c1 4 _ (H1.out.below hal) (nats4 (by simp [go_sem]) (by simp [go_sem]) (by simp [go_sem]) (by simp [go_sem])) (by decide)
  have HS1 := Lib.hid hs1; have HAl := Lib.hid hal
  clear hs1 hal
  refine HS1.out.mono ?_; rintro e w5 ⟨rfl, hb5⟩
  have hb45 := HAl.out.trans (hb5.mono HAl.out.size)
  have H2b := Lib.hid (H2.out.below hb45); have H3b := Lib.hid (H3.out.below hb45); have HB5 := Lib.hid (HB4.out.trans (hb45.mono HB4.out.size))
  clear hb45 hb5 HAl HS1 H1 H2 H3 HB4
  go_wp2_with fail
  have hal : Below w5.heap.size w5 (w5.alloc (.cells #[.int .i64 1, .int .i64 2] 3)) := (Below.refl _ _).alloc (Nat.le_refl _) _
  have hs1 := sameInts_any [1, 2] [1, 2] a2 (some ⟨w5.heap.size, 0, none⟩) c2 2 _ (H2b.out.below hal) (nats2 (by simp [go_sem]) (by simp [go_sem])) (by decide)
  have HS1 := Lib.hid hs1; have HAl := Lib.hid hal
  clear hs1 hal
  refine HS1.out.mono ?_; rintro e w6 ⟨rfl, hb6⟩
  have hb56 := HAl.out.trans (hb6.mono HAl.out.size)
  obtain ⟨b3, o3, rfl, hc1, hc2⟩ := PairsIn.below H3b.out hb56 0 (by decide)
  have hc1 : w6.cell? ⟨b3, o3 + 0 * 2, none⟩ = some (.int .i64 0) := hc1
  have hc2 : w6.cell? ⟨b3, o3 + 0 * 2 + 1, none⟩ = some (.int .i64 2) := hc2
  rw [Nat.zero_mul, Nat.add_zero] at hc1 hc2
  have heq := eq_pair 0 2 0 2
  have HB6 := Lib.hid (HB5.out.trans (hb56.mono HB5.out.size))
  clear hb56 hb6 HAl HS1 H2b H3b HB5
  go_wp2_with fail
  go_ret
  exact ⟨rfl, HB6.out⟩
end Go.Proofs.Ytmljmmnofhhheaa
