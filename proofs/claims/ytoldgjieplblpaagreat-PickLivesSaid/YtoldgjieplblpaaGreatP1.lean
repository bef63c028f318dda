/- The laws PickCodes and PickPrograms. -/
import Derived.Test.YtoldgjieplblpaaGreatMU
import Derived.Test.YtoldgjieplblpaaGreatMP
import Derived.Test.YtoldgjieplblpaaGreatEK
namespace Go.Proofs.YtoldgjieplblpaaGreat.PK
open Go.RowKit

theorem known_any (w : World) : Calls Tryz.prog 11 #[] w fun e w' => e = .returned (.bool true) ∧ Below w.heap.size w w' := Mini.known_true w
set_option maxHeartbeats 1000000 in
theorem same20_any (xs : List Int) (a b : Option Addr) (ca cb : Nat) (w : World) (ha : IntsIn w a xs) (hb : IntsIn w b xs) (hl : xs.length ≤ 1000000) :
    Calls Tryz.prog 34 #[.slice a xs.length ca, .slice b xs.length cb] w fun e w' => e = .returned (.bool true) ∧ Below w.heap.size w w' := by
  have HA := Lib.hid ha; have HB := Lib.hid hb
  clear ha hb
  go_enter Tryz.func34, Tryz.ntmps34
  go_wp2_with fail
  go_loopw [5] (fun i wr => ∃ k : Nat, k ≤ xs.length ∧ i = .int .i64 k ∧ Below w.heap.size w wr) (fun i _ => xs.length - (intOf i).toNat)
  case atStart => exact ⟨0, Nat.zero_le _, rfl, Below.refl _ _⟩
  case round =>
    obtain ⟨k, hk, rfl, hbl⟩ := hrel
    by_cases hlt : k < xs.length
    · obtain ⟨b1, o1, rfl, h1⟩ := HA.out.below hbl k hlt
      obtain ⟨b2, o2, rfl, h2⟩ := HB.out.below hbl k hlt
      have HBl := Lib.hid hbl
      have hki : (k : Int) < (xs.length : Int) := by omega
      clear hbl
      generalize xs.getD k 0 = x at *
      have hb : (x != x) = false := by simp
      go_wp2_with fail
      go_quiet (fail)
      go_wp2_with fail
      go_roundw
      case rel => exact ⟨k + 1, by omega, by go_num, below_drewN HBl.out _⟩
      case measure => simp [intOf]; omega
    · have HBl := Lib.hid hbl
      clear hbl
      go_wp2_with fail
      go_ret
      exact ⟨rfl, HBl.out⟩
set_option maxRecDepth 100000 in
set_option maxHeartbeats 1000000 in
theorem pickCodes_any (x : Cd) (w : World) : Calls Tryz.prog 8 #[(.agg #[.int .i64 x.op, .int .i64 x.d, .int .i64 x.a, .int .i64 x.b, .int .u32 x.im, .int .i64 x.to])] w fun e w' => e = .returned (.bool true) ∧ Below w.heap.size w w' := by
  have HB0 := Lib.hid ((Below.refl w.heap.size w).alloc (Nat.le_refl _) (.cells #[.int .i64 x.op, .int .i64 x.d, .int .i64 x.a, .int .i64 x.b, .int .u32 x.im, .int .i64 x.to] 68))
  have HX := Lib.hid (cdAt_new w x 68)
  have HA := Lib.hid (sUses_all x); have HB := Lib.hid (rUses_all x); have HC := Lib.hid (sDefines_all x); have HD := Lib.hid (rDefines_all x)
  have HK := Lib.hid known_any
  unfold UsePost at HA HB
  unfold DefV at HC HD
  have hul : (if isCodeB x 200 400 = true then usesL x else []).length ≤ 2 := by
    split
    · exact usesL_len x
    · exact Nat.zero_le _
  generalize (if isCodeB x 200 400 = true then usesL x else []) = L at *
  generalize (if isCodeB x 200 400 = true then (0 : Int) else 1) = E at *
  generalize (if isCodeB x 200 400 = true then x.d else 0) = D at *
  generalize (isCodeB x 200 400 && fD x.op) = F at *
  obtain ⟨x0, x1, x2, x3, x4, x5⟩ := x
  have HX : Hid (CdAt (w.alloc (.cells #[.int .i64 x0, .int .i64 x1, .int .i64 x2, .int .i64 x3, .int .u32 x4, .int .i64 x5] 68)) w.heap.size 0 ⟨x0, x1, x2, x3, x4, x5⟩) := HX
  have HB0 : Hid (Below w.heap.size w (w.alloc (.cells #[.int .i64 x0, .int .i64 x1, .int .i64 x2, .int .i64 x3, .int .u32 x4, .int .i64 x5] 68))) := HB0
  have HA : Hid (∀ w : World, Calls Tryz.prog 30 #[.agg #[.int .i64 x0, .int .i64 x1, .int .i64 x2, .int .i64 x3, .int .u32 x4, .int .i64 x5]] w fun e w' => (∃ v, e = .returned (.tuple #[v, .int .i64 E]) ∧ w'.ownsRow w.heap.size 3 1 v L.length (encI L)) ∧ Below w.heap.size w w') := HA
  have HB : Hid (∀ w : World, Calls Tryz.prog 31 #[.agg #[.int .i64 x0, .int .i64 x1, .int .i64 x2, .int .i64 x3, .int .u32 x4, .int .i64 x5]] w fun e w' => (∃ v, e = .returned (.tuple #[v, .int .i64 E]) ∧ w'.ownsRow w.heap.size 3 1 v L.length (encI L)) ∧ Below w.heap.size w w') := HB
  have HC : Hid (∀ w : World, Calls Tryz.prog 32 #[.agg #[.int .i64 x0, .int .i64 x1, .int .i64 x2, .int .i64 x3, .int .u32 x4, .int .i64 x5]] w fun e w' => e = .returned (.tuple #[.int .i64 D, .bool F, .int .i64 E]) ∧ Below w.heap.size w w') := HC
  have HD : Hid (∀ w : World, Calls Tryz.prog 33 #[.agg #[.int .i64 x0, .int .i64 x1, .int .i64 x2, .int .i64 x3, .int .u32 x4, .int .i64 x5]] w fun e w' => e = .returned (.tuple #[.int .i64 D, .bool F, .int .i64 E]) ∧ Below w.heap.size w w') := HD
  go_enter Tryz.func8, Tryz.ntmps8
  go_upto_region 1 with (fail)
  generalize w.alloc (.cells #[.int .i64 x0, .int .i64 x1, .int .i64 x2, .int .i64 x3, .int .u32 x4, .int .i64 x5] 68) = w0 at *
  obtain ⟨c0, c1, c2, c3, c4, c5⟩ := cell_six_in0 HX.out
  simp only at c0 c1 c2 c3 c4 c5
  go_wp2_with fail
  refine (HA.out _).mono ?_; rintro e w1 ⟨⟨v1, rfl, ho1⟩, hb1⟩
  obtain ⟨a1, k1, rfl, _, hi1⟩ := ints_of_owns ho1
  have HB1 := Lib.hid (HB0.out.trans (hb1.mono HB0.out.size)); have HI1 := Lib.hid hi1
  have HX1 := Lib.hid (HX.out.keep hb1)
  clear c0 c1 c2 c3 c4 c5 ho1 hb1 hi1
  obtain ⟨c0, c1, c2, c3, c4, c5⟩ := cell_six_in0 HX1.out
  simp only at c0 c1 c2 c3 c4 c5
  go_wp2_with fail
  refine (HB.out _).mono ?_; rintro e w2 ⟨⟨v2, rfl, ho2⟩, hb2⟩
  obtain ⟨a2, k2, rfl, _, hi2⟩ := ints_of_owns ho2
  have HB2 := Lib.hid (HB1.out.trans (hb2.mono HB1.out.size)); have HI2 := Lib.hid hi2; have HJ2 := Lib.hid (HI1.out.below hb2)
  have HX2 := Lib.hid (HX1.out.keep hb2)
  clear c0 c1 c2 c3 c4 c5 ho2 hb2 hi2
  obtain ⟨c0, c1, c2, c3, c4, c5⟩ := cell_six_in0 HX2.out
  simp only at c0 c1 c2 c3 c4 c5
  go_wp2_with fail
  refine (HC.out _).mono ?_; rintro e w3 ⟨rfl, hb3⟩
  have HB3 := Lib.hid (HB2.out.trans (hb3.mono HB2.out.size)); have HI3 := Lib.hid (HI2.out.below hb3); have HJ3 := Lib.hid (HJ2.out.below hb3)
  have HX3 := Lib.hid (HX2.out.keep hb3)
  clear c0 c1 c2 c3 c4 c5 hb3
  obtain ⟨c0, c1, c2, c3, c4, c5⟩ := cell_six_in0 HX3.out
  simp only at c0 c1 c2 c3 c4 c5
  go_wp2_with fail
  refine (HD.out _).mono ?_; rintro e w4 ⟨rfl, hb4⟩
  have HB4 := Lib.hid (HB3.out.trans (hb4.mono HB3.out.size))
  have HS := Lib.hid (same20_any L a1 a2 k1 k2 w4 (HJ3.out.below hb4) (HI3.out.below hb4) (by omega))
  clear c0 c1 c2 c3 c4 c5 hb4
  go_wp2_with fail
  refine HS.out.mono ?_; rintro e w5 ⟨rfl, hb5⟩
  have HB5 := Lib.hid (HB4.out.trans (hb5.mono HB4.out.size))
  clear hb5
  go_wp2_with fail
  refine (HK.out _).mono ?_; rintro e w6 ⟨rfl, hb6⟩
  go_wp2_with fail
  go_ret
  exact ⟨rfl, HB5.out.trans (hb6.mono HB5.out.size)⟩
end Go.Proofs.YtoldgjieplblpaaGreat.PK
