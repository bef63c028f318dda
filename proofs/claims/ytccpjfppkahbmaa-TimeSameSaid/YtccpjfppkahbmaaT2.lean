/- The walks of the specification's isRegister, IsStore and right. -/
import Derived.Test.YtccpjfppkahbmaaT1
namespace Go.Proofs.Ytccpjfppkahbmaa
open Go.RowKit PK

def regB (n : Int) : Bool := decide (0 ≤ n) && decide (n < 200)
def stB (op : Int) : Bool := decide (21 ≤ op) && decide (op ≤ 23)
theorem reg_any (n : Int) (w : World) : Calls Try.prog 76 #[.int .i64 n] w fun e w' => e = .returned (.bool (regB n)) ∧ w = w' := by
  go_enter Try.func76, Try.ntmps76
  go_upto_region 1 with (fail)
  by_cases h0 : 0 ≤ n
  · by_cases h1 : n < 200
    · go_wp2_with fail
      go_ret
      exact ⟨ret_bool (by unfold regB; simp [h0, h1]), rfl⟩
    · go_wp2_with fail
      go_ret
      exact ⟨ret_bool (by unfold regB; simp; omega), rfl⟩
  · go_wp2_with fail
    go_ret
    exact ⟨ret_bool (by unfold regB; simp; omega), rfl⟩
theorem store_any (n : Int) (w : World) : Calls Try.prog 77 #[.int .i64 n] w fun e w' => e = .returned (.bool (stB n)) ∧ w = w' := by
  go_enter Try.func77, Try.ntmps77
  go_upto_region 1 with (fail)
  by_cases h0 : 21 ≤ n
  · by_cases h1 : n ≤ 23
    · go_wp2_with fail
      go_ret
      exact ⟨ret_bool (by unfold stB; simp [h0, h1]), rfl⟩
    · go_wp2_with fail
      go_ret
      exact ⟨ret_bool (by unfold stB; simp; omega), rfl⟩
  · go_wp2_with fail
    go_ret
    exact ⟨ret_bool (by unfold stB; simp; omega), rfl⟩
theorem reg_is {n : Int} {b : Bool} (h : regB n = b) (w : World) : Calls Try.prog 76 #[.int .i64 n] w fun e w' => e = .returned (.bool b) ∧ w = w' := h ▸ reg_any n w
theorem store_is {n : Int} {b : Bool} (h : stB n = b) (w : World) : Calls Try.prog 77 #[.int .i64 n] w fun e w' => e = .returned (.bool b) ∧ w = w' := h ▸ store_any n w
/-- right, as the specification spells it. -/
def rightR (x : Cd) : Bool :=
  if x.to ≠ 0 then false
  else if x.op = 0 then regB x.d && (decide (x.a = 0) && decide (x.b = 0))
  else if x.op = 1 then regB x.d && (regB x.a && (decide (x.b = 0) && decide (x.im = 0)))
  else if 2 ≤ x.op ∧ x.op ≤ 17 then regB x.d && (regB x.a && (regB x.b && decide (x.im = 0)))
  else if 18 ≤ x.op ∧ x.op ≤ 20 then regB x.d && ((decide (x.a = -1) || regB x.a) && decide (x.b = 0))
  else if 21 ≤ x.op ∧ x.op ≤ 23 then decide (x.d = 0) && ((decide (x.a = -1) || regB x.a) && regB x.b)
  else false
set_option maxRecDepth 100000 in
set_option maxHeartbeats 8000000 in
theorem right_any (x : Cd) (w : World) : Calls Try.prog 48 #[(.agg #[.int .i64 x.op, .int .i64 x.d, .int .i64 x.a, .int .i64 x.b, .int .u32 x.im, .int .i64 x.to])] w fun e w' => e = .returned (.bool (rightR x)) ∧ Below w.heap.size w w' := by
  have HB0 := Lib.hid ((Below.refl w.heap.size w).alloc (Nat.le_refl _) (.cells #[.int .i64 x.op, .int .i64 x.d, .int .i64 x.a, .int .i64 x.b, .int .u32 x.im, .int .i64 x.to] 42))
  have HX := Lib.hid (cdAt_new w x 42)
  have HR := Lib.hid (show rightR x = rightR x from rfl)
  unfold rightR at HR
  generalize hres : rightR x = RES
  have HRes : Hid (RES = rightR x) := Lib.hid hres.symm
  unfold rightR at HRes
  clear hres HR
  obtain ⟨x0, x1, x2, x3, x4, x5⟩ := x
  simp only at HRes
  have HX : Hid (CdAt (w.alloc (.cells #[.int .i64 x0, .int .i64 x1, .int .i64 x2, .int .i64 x3, .int .u32 x4, .int .i64 x5] 42)) w.heap.size 0 ⟨x0, x1, x2, x3, x4, x5⟩) := HX
  have HB0 : Hid (Below w.heap.size w (w.alloc (.cells #[.int .i64 x0, .int .i64 x1, .int .i64 x2, .int .i64 x3, .int .u32 x4, .int .i64 x5] 42))) := HB0
  go_enter Try.func48, Try.ntmps48
  go_upto_region 1 with (fail)
  generalize w.alloc (.cells #[.int .i64 x0, .int .i64 x1, .int .i64 x2, .int .i64 x3, .int .u32 x4, .int .i64 x5] 42) = w0 at *
  generalize hq : w.heap.size = q at HX
  obtain ⟨c0, c1, c2, c3, c4, c5⟩ := HX.out
  simp only at c0 c1 c2 c3 c4 c5
  subst hq
  by_cases ht : x5 = 0
  · subst ht
    by_cases g0 : x0 = 0
    · subst g0
      cases hrd : regB x1
      · have HRd := Lib.hid (reg_is hrd)
        go_wp2_with fail
        refine (HRd.out _).mono ?_; rintro e w9 ⟨rfl, rfl⟩
        go_wp2_with fail
        go_ret
        exact ⟨ret_bool (by rw [HRes.out]; simp [hrd]), HB0.out⟩
      · have HRd := Lib.hid (reg_is hrd)
        by_cases hza : x2 = 0
        · subst hza
          by_cases hzb : x3 = 0
          · subst hzb
            go_wp2_with fail
            refine (HRd.out _).mono ?_; rintro e w9 ⟨rfl, rfl⟩
            go_wp2_with fail
            go_ret
            exact ⟨ret_bool (by rw [HRes.out]; simp [hrd]), HB0.out⟩
          · skip
            go_wp2_with fail
            refine (HRd.out _).mono ?_; rintro e w9 ⟨rfl, rfl⟩
            go_wp2_with fail
            go_ret
            exact ⟨ret_bool (by rw [HRes.out]; simp [hrd, hzb]), HB0.out⟩
        · skip
          go_wp2_with fail
          refine (HRd.out _).mono ?_; rintro e w9 ⟨rfl, rfl⟩
          go_wp2_with fail
          go_ret
          exact ⟨ret_bool (by rw [HRes.out]; simp [hrd, hza]), HB0.out⟩
    by_cases g1 : x0 = 1
    · subst g1
      cases hrd : regB x1
      · have HRd := Lib.hid (reg_is hrd)
        go_wp2_with fail
        refine (HRd.out _).mono ?_; rintro e w9 ⟨rfl, rfl⟩
        go_wp2_with fail
        go_ret
        exact ⟨ret_bool (by rw [HRes.out]; simp [hrd]), HB0.out⟩
      · have HRd := Lib.hid (reg_is hrd)
        cases hra : regB x2
        · have HRa := Lib.hid (reg_is hra)
          go_wp2_with fail
          refine (HRd.out _).mono ?_; rintro e w9 ⟨rfl, rfl⟩
          go_wp2_with fail
          refine (HRa.out _).mono ?_; rintro e w9 ⟨rfl, rfl⟩
          go_wp2_with fail
          go_ret
          exact ⟨ret_bool (by rw [HRes.out]; simp [hrd, hra]), HB0.out⟩
        · have HRa := Lib.hid (reg_is hra)
          by_cases hzb : x3 = 0
          · subst hzb
            by_cases hzi : x4 = 0
            · subst hzi
              go_wp2_with fail
              refine (HRd.out _).mono ?_; rintro e w9 ⟨rfl, rfl⟩
              go_wp2_with fail
              refine (HRa.out _).mono ?_; rintro e w9 ⟨rfl, rfl⟩
              go_wp2_with fail
              go_ret
              exact ⟨ret_bool (by rw [HRes.out]; simp [hrd, hra]), HB0.out⟩
            · have hzi' : ¬ (x4 : Int) = 0 := by omega
              go_wp2_with fail
              refine (HRd.out _).mono ?_; rintro e w9 ⟨rfl, rfl⟩
              go_wp2_with fail
              refine (HRa.out _).mono ?_; rintro e w9 ⟨rfl, rfl⟩
              go_wp2_with fail
              go_ret
              exact ⟨ret_bool (by rw [HRes.out]; simp [hrd, hra, hzi]), HB0.out⟩
          · skip
            go_wp2_with fail
            refine (HRd.out _).mono ?_; rintro e w9 ⟨rfl, rfl⟩
            go_wp2_with fail
            refine (HRa.out _).mono ?_; rintro e w9 ⟨rfl, rfl⟩
            go_wp2_with fail
            go_ret
            exact ⟨ret_bool (by rw [HRes.out]; simp [hrd, hra, hzb]), HB0.out⟩
    by_cases g2 : 2 ≤ x0 ∧ x0 ≤ 17
    · obtain ⟨g2a, g2b⟩ := g2
      cases hrd : regB x1
      · have HRd := Lib.hid (reg_is hrd)
        go_wp2_with fail
        refine (HRd.out _).mono ?_; rintro e w9 ⟨rfl, rfl⟩
        go_wp2_with fail
        go_ret
        exact ⟨ret_bool (by rw [HRes.out]; simp [g0, g1, g2a, g2b, hrd]), HB0.out⟩
      · have HRd := Lib.hid (reg_is hrd)
        cases hra : regB x2
        · have HRa := Lib.hid (reg_is hra)
          go_wp2_with fail
          refine (HRd.out _).mono ?_; rintro e w9 ⟨rfl, rfl⟩
          go_wp2_with fail
          refine (HRa.out _).mono ?_; rintro e w9 ⟨rfl, rfl⟩
          go_wp2_with fail
          go_ret
          exact ⟨ret_bool (by rw [HRes.out]; simp [g0, g1, g2a, g2b, hrd, hra]), HB0.out⟩
        · have HRa := Lib.hid (reg_is hra)
          cases hrb : regB x3
          · have HRb := Lib.hid (reg_is hrb)
            go_wp2_with fail
            refine (HRd.out _).mono ?_; rintro e w9 ⟨rfl, rfl⟩
            go_wp2_with fail
            refine (HRa.out _).mono ?_; rintro e w9 ⟨rfl, rfl⟩
            go_wp2_with fail
            refine (HRb.out _).mono ?_; rintro e w9 ⟨rfl, rfl⟩
            go_wp2_with fail
            go_ret
            exact ⟨ret_bool (by rw [HRes.out]; simp [g0, g1, g2a, g2b, hrd, hra, hrb]), HB0.out⟩
          · have HRb := Lib.hid (reg_is hrb)
            by_cases hzi : x4 = 0
            · subst hzi
              go_wp2_with fail
              refine (HRd.out _).mono ?_; rintro e w9 ⟨rfl, rfl⟩
              go_wp2_with fail
              refine (HRa.out _).mono ?_; rintro e w9 ⟨rfl, rfl⟩
              go_wp2_with fail
              refine (HRb.out _).mono ?_; rintro e w9 ⟨rfl, rfl⟩
              go_wp2_with fail
              go_ret
              exact ⟨ret_bool (by rw [HRes.out]; simp [g0, g1, g2a, g2b, hrd, hra, hrb]), HB0.out⟩
            · have hzi' : ¬ (x4 : Int) = 0 := by omega
              go_wp2_with fail
              refine (HRd.out _).mono ?_; rintro e w9 ⟨rfl, rfl⟩
              go_wp2_with fail
              refine (HRa.out _).mono ?_; rintro e w9 ⟨rfl, rfl⟩
              go_wp2_with fail
              refine (HRb.out _).mono ?_; rintro e w9 ⟨rfl, rfl⟩
              go_wp2_with fail
              go_ret
              exact ⟨ret_bool (by rw [HRes.out]; simp [g0, g1, g2a, g2b, hrd, hra, hrb, hzi]), HB0.out⟩
    have g2' := g2
    have hg2 : x0 < 2 ∨ 17 < x0 := by omega
    by_cases g3 : 18 ≤ x0 ∧ x0 ≤ 20
    · obtain ⟨g3a, g3b⟩ := g3
      cases hrd : regB x1
      · have HRd := Lib.hid (reg_is hrd)
        go_wp2_with fail
        refine (HRd.out _).mono ?_; rintro e w9 ⟨rfl, rfl⟩
        go_wp2_with fail
        go_ret
        exact ⟨ret_bool (by rw [HRes.out]; simp [g0, g1, g2, g3a, g3b, hrd]), HB0.out⟩
      · have HRd := Lib.hid (reg_is hrd)
        by_cases hma : x2 = -1
        · subst hma
          by_cases hzb : x3 = 0
          · subst hzb
            go_wp2_with fail
            refine (HRd.out _).mono ?_; rintro e w9 ⟨rfl, rfl⟩
            go_wp2_with fail
            go_ret
            exact ⟨ret_bool (by rw [HRes.out]; simp [g0, g1, g2, g3a, g3b, hrd]), HB0.out⟩
          · skip
            go_wp2_with fail
            refine (HRd.out _).mono ?_; rintro e w9 ⟨rfl, rfl⟩
            go_wp2_with fail
            go_ret
            exact ⟨ret_bool (by rw [HRes.out]; simp [g0, g1, g2, g3a, g3b, hrd, hzb]), HB0.out⟩
        · skip
          cases hra : regB x2
          · have HRa := Lib.hid (reg_is hra)
            go_wp2_with fail
            refine (HRd.out _).mono ?_; rintro e w9 ⟨rfl, rfl⟩
            go_wp2_with fail
            refine (HRa.out _).mono ?_; rintro e w9 ⟨rfl, rfl⟩
            go_wp2_with fail
            go_ret
            exact ⟨ret_bool (by rw [HRes.out]; simp [g0, g1, g2, g3a, g3b, hrd, hma, hra]), HB0.out⟩
          · have HRa := Lib.hid (reg_is hra)
            by_cases hzb : x3 = 0
            · subst hzb
              go_wp2_with fail
              refine (HRd.out _).mono ?_; rintro e w9 ⟨rfl, rfl⟩
              go_wp2_with fail
              refine (HRa.out _).mono ?_; rintro e w9 ⟨rfl, rfl⟩
              go_wp2_with fail
              go_ret
              exact ⟨ret_bool (by rw [HRes.out]; simp [g0, g1, g2, g3a, g3b, hrd, hma, hra]), HB0.out⟩
            · skip
              go_wp2_with fail
              refine (HRd.out _).mono ?_; rintro e w9 ⟨rfl, rfl⟩
              go_wp2_with fail
              refine (HRa.out _).mono ?_; rintro e w9 ⟨rfl, rfl⟩
              go_wp2_with fail
              go_ret
              exact ⟨ret_bool (by rw [HRes.out]; simp [g0, g1, g2, g3a, g3b, hrd, hma, hra, hzb]), HB0.out⟩
    by_cases g4 : 21 ≤ x0 ∧ x0 ≤ 23
    · obtain ⟨g4a, g4b⟩ := g4
      have hst : stB x0 = true := by unfold stB; simp [g4a, g4b]
      have HSt := Lib.hid (store_is hst)
      by_cases hzd : x1 = 0
      · subst hzd
        by_cases hma : x2 = -1
        · subst hma
          cases hrb : regB x3
          · have HRb := Lib.hid (reg_is hrb)
            go_wp2_with fail
            refine (HSt.out _).mono ?_; rintro e w9 ⟨rfl, rfl⟩
            go_wp2_with fail
            refine (HRb.out _).mono ?_; rintro e w9 ⟨rfl, rfl⟩
            go_wp2_with fail
            go_ret
            exact ⟨ret_bool (by rw [HRes.out]; simp [g0, g1, g2, g3, g4a, g4b, hrb]), HB0.out⟩
          · have HRb := Lib.hid (reg_is hrb)
            go_wp2_with fail
            refine (HSt.out _).mono ?_; rintro e w9 ⟨rfl, rfl⟩
            go_wp2_with fail
            refine (HRb.out _).mono ?_; rintro e w9 ⟨rfl, rfl⟩
            go_wp2_with fail
            go_ret
            exact ⟨ret_bool (by rw [HRes.out]; simp [g0, g1, g2, g3, g4a, g4b, hrb]), HB0.out⟩
        · skip
          cases hra : regB x2
          · have HRa := Lib.hid (reg_is hra)
            go_wp2_with fail
            refine (HSt.out _).mono ?_; rintro e w9 ⟨rfl, rfl⟩
            go_wp2_with fail
            refine (HRa.out _).mono ?_; rintro e w9 ⟨rfl, rfl⟩
            go_wp2_with fail
            go_ret
            exact ⟨ret_bool (by rw [HRes.out]; simp [g0, g1, g2, g3, g4a, g4b, hma, hra]), HB0.out⟩
          · have HRa := Lib.hid (reg_is hra)
            cases hrb : regB x3
            · have HRb := Lib.hid (reg_is hrb)
              go_wp2_with fail
              refine (HSt.out _).mono ?_; rintro e w9 ⟨rfl, rfl⟩
              go_wp2_with fail
              refine (HRa.out _).mono ?_; rintro e w9 ⟨rfl, rfl⟩
              go_wp2_with fail
              refine (HRb.out _).mono ?_; rintro e w9 ⟨rfl, rfl⟩
              go_wp2_with fail
              go_ret
              exact ⟨ret_bool (by rw [HRes.out]; simp [g0, g1, g2, g3, g4a, g4b, hma, hra, hrb]), HB0.out⟩
            · have HRb := Lib.hid (reg_is hrb)
              go_wp2_with fail
              refine (HSt.out _).mono ?_; rintro e w9 ⟨rfl, rfl⟩
              go_wp2_with fail
              refine (HRa.out _).mono ?_; rintro e w9 ⟨rfl, rfl⟩
              go_wp2_with fail
              refine (HRb.out _).mono ?_; rintro e w9 ⟨rfl, rfl⟩
              go_wp2_with fail
              go_ret
              exact ⟨ret_bool (by rw [HRes.out]; simp [g0, g1, g2, g3, g4a, g4b, hma, hra, hrb]), HB0.out⟩
      · skip
        go_wp2_with fail
        refine (HSt.out _).mono ?_; rintro e w9 ⟨rfl, rfl⟩
        go_wp2_with fail
        go_ret
        exact ⟨ret_bool (by rw [HRes.out]; simp [g0, g1, g2, g3, g4a, g4b, hzd]), HB0.out⟩
    have hst : stB x0 = false := by unfold stB; simp; omega
    have HSt := Lib.hid (store_is hst)
    by_cases g5 : x0 < 0
    · skip
      go_wp2_with fail
      refine (HSt.out _).mono ?_; rintro e w9 ⟨rfl, rfl⟩
      go_wp2_with fail
      go_ret
      exact ⟨ret_bool (by rw [HRes.out]; simp [g0, g1, g2, g3, g4]), HB0.out⟩
    · have g6 : 24 ≤ x0 := by omega
      go_wp2_with fail
      refine (HSt.out _).mono ?_; rintro e w9 ⟨rfl, rfl⟩
      go_wp2_with fail
      go_ret
      exact ⟨ret_bool (by rw [HRes.out]; simp [g0, g1, g2, g3, g4]), HB0.out⟩
  · skip
    go_wp2_with fail
    go_ret
    exact ⟨ret_bool (by rw [HRes.out]; simp [ht]), HB0.out⟩
end Go.Proofs.Ytccpjfppkahbmaa
