/- The walk of time.depends. -/
import Derived.Test.YtccpjfppkahbmaaTE
namespace Go.Proofs.Ytccpjfppkahbmaa
open Go.RowKit PK

def memB (op : Int) : Bool := decide (18 ≤ op) && decide (op ≤ 23)
theorem tMem_any (n : Int) (w : World) : Calls Try.prog 115 #[.int .i64 n] w fun e w' => e = .returned (.bool (memB n)) ∧ w = w' := by
  go_enter Try.func115, Try.ntmps115
  go_upto_region 1 with (fail)
  by_cases h0 : 18 ≤ n
  · by_cases h1 : n ≤ 23
    · go_wp2_with fail
      go_ret
      exact ⟨ret_bool (by unfold memB; simp [h0, h1]), rfl⟩
    · go_wp2_with fail
      go_ret
      exact ⟨ret_bool (by unfold memB; simp; omega), rfl⟩
  · go_wp2_with fail
    go_ret
    exact ⟨ret_bool (by unfold memB; simp; omega), rfl⟩
theorem tSto_any (n : Int) (w : World) : Calls Try.prog 116 #[.int .i64 n] w fun e w' => e = .returned (.bool (stB n)) ∧ w = w' := by
  go_enter Try.func116, Try.ntmps116
  go_upto_region 1 with (fail)
  by_cases h0 : 21 ≤ n
  · by_cases h1 : n ≤ 23
    · go_wp2_with fail
      go_ret
      exact ⟨ret_bool (by unfold stB; simp [h0, h1]), rfl⟩
    · go_wp2_with fail
      go_ret
      exact ⟨ret_bool (by unfold stB; simp; omega), rfl⟩
  · go_wp2_with fail
    go_ret
    exact ⟨ret_bool (by unfold stB; simp; omega), rfl⟩
/-- y, behind x, depends on x. -/
def depB (x y : Cd) : Bool := (memB x.op && (memB y.op && (stB x.op || stB y.op))) || ((fD x.op && (usesL y).contains x.d) || ((fD y.op && (usesL x).contains y.d) || (fD x.op && (fD y.op && decide (x.d = y.d)))))
theorem usesL_small (x : Cd) : (usesL x).length ≤ 100000 := Nat.le_trans (usesL_len x) (by omega)
set_option maxRecDepth 100000 in
set_option maxHeartbeats 8000000 in
theorem depends_any (x y : Cd) (hx : okC x = true) (hy : okC y = true) (w : World) : Calls Try.prog 100 #[(.agg #[.int .i64 x.op, .int .i64 x.d, .int .i64 x.a, .int .i64 x.b, .int .u32 x.im, .int .i64 x.to]), (.agg #[.int .i64 y.op, .int .i64 y.d, .int .i64 y.a, .int .i64 y.b, .int .u32 y.im, .int .i64 y.to])] w fun e w' => e = .returned (.bool (depB x y)) ∧ Below w.heap.size w w' := by
  have HB0 := Lib.hid (((Below.refl w.heap.size w).alloc (Nat.le_refl _) (.cells #[.int .i64 x.op, .int .i64 x.d, .int .i64 x.a, .int .i64 x.b, .int .u32 x.im, .int .i64 x.to] 42)).alloc (by simp) (.cells #[.int .i64 y.op, .int .i64 y.d, .int .i64 y.a, .int .i64 y.b, .int .u32 y.im, .int .i64 y.to] 42))
  have HX := Lib.hid ((cdAt_new w x 42).keep ((Below.refl _ _).alloc (Nat.le_refl _) (.cells #[.int .i64 y.op, .int .i64 y.d, .int .i64 y.a, .int .i64 y.b, .int .u32 y.im, .int .i64 y.to] 42)))
  have hY := cdAt_new (w.alloc (.cells #[.int .i64 x.op, .int .i64 x.d, .int .i64 x.a, .int .i64 x.b, .int .u32 x.im, .int .i64 x.to] 42)) y 42
  rw [World.size_alloc] at hY
  have HY := Lib.hid hY
  clear hY
  have HMx := Lib.hid (tMem_any x.op)
  have HMy := Lib.hid (tMem_any y.op)
  have HSx := Lib.hid (tSto_any x.op)
  have HSy := Lib.hid (tSto_any y.op)
  have HDx := Lib.hid (Defines_ok hx rfl)
  have HDy := Lib.hid (Defines_ok hy rfl)
  have HUx := Lib.hid (uses_ok hx)
  have HUy := Lib.hid (uses_ok hy)
  have HCx := Lib.hid (fun a cap w hin => contains_is (rfl : (usesL y).contains x.d = _) (a := a) (cap := cap) (w := w) hin (usesL_small y))
  have HCy := Lib.hid (fun a cap w hin => contains_is (rfl : (usesL x).contains y.d = _) (a := a) (cap := cap) (w := w) hin (usesL_small x))
  clear hx hy
  generalize hres : depB x y = RES
  have HRes : Hid (RES = depB x y) := Lib.hid hres.symm
  clear hres
  unfold depB at HRes
  generalize (usesL y).contains x.d = c1 at *
  generalize (usesL x).contains y.d = c2 at *
  generalize usesL x = L1 at *
  generalize usesL y = L2 at *
  generalize memB x.op = mx at *
  generalize memB y.op = my at *
  generalize stB x.op = sx at *
  generalize stB y.op = sy at *
  generalize fD x.op = b1 at *
  generalize fD y.op = b2 at *
  obtain ⟨x0, x1, x2, x3, x4, x5⟩ := x
  obtain ⟨y0, y1, y2, y3, y4, y5⟩ := y
  simp only at HRes
  have HX : Hid (CdAt ((w.alloc (.cells #[.int .i64 x0, .int .i64 x1, .int .i64 x2, .int .i64 x3, .int .u32 x4, .int .i64 x5] 42)).alloc (.cells #[.int .i64 y0, .int .i64 y1, .int .i64 y2, .int .i64 y3, .int .u32 y4, .int .i64 y5] 42)) w.heap.size 0 ⟨x0, x1, x2, x3, x4, x5⟩) := HX
  have HY : Hid (CdAt ((w.alloc (.cells #[.int .i64 x0, .int .i64 x1, .int .i64 x2, .int .i64 x3, .int .u32 x4, .int .i64 x5] 42)).alloc (.cells #[.int .i64 y0, .int .i64 y1, .int .i64 y2, .int .i64 y3, .int .u32 y4, .int .i64 y5] 42)) (w.heap.size + 1) 0 ⟨y0, y1, y2, y3, y4, y5⟩) := HY
  have HB0 : Hid (Below w.heap.size w ((w.alloc (.cells #[.int .i64 x0, .int .i64 x1, .int .i64 x2, .int .i64 x3, .int .u32 x4, .int .i64 x5] 42)).alloc (.cells #[.int .i64 y0, .int .i64 y1, .int .i64 y2, .int .i64 y3, .int .u32 y4, .int .i64 y5] 42))) := HB0
  have HMx : Hid (∀ w : World, Calls Try.prog 115 #[.int .i64 x0] w fun e w' => e = .returned (.bool mx) ∧ w = w') := HMx
  have HMy : Hid (∀ w : World, Calls Try.prog 115 #[.int .i64 y0] w fun e w' => e = .returned (.bool my) ∧ w = w') := HMy
  have HSx : Hid (∀ w : World, Calls Try.prog 116 #[.int .i64 x0] w fun e w' => e = .returned (.bool sx) ∧ w = w') := HSx
  have HSy : Hid (∀ w : World, Calls Try.prog 116 #[.int .i64 y0] w fun e w' => e = .returned (.bool sy) ∧ w = w') := HSy
  have HDx : Hid (∀ w : World, Calls Try.prog 62 #[.agg #[.int .i64 x0, .int .i64 x1, .int .i64 x2, .int .i64 x3, .int .u32 x4, .int .i64 x5]] w fun e w' => e = .returned (.tuple #[.int .i64 x1, .bool b1, .int .i64 0]) ∧ Below w.heap.size w w') := HDx
  have HDy : Hid (∀ w : World, Calls Try.prog 62 #[.agg #[.int .i64 y0, .int .i64 y1, .int .i64 y2, .int .i64 y3, .int .u32 y4, .int .i64 y5]] w fun e w' => e = .returned (.tuple #[.int .i64 y1, .bool b2, .int .i64 0]) ∧ Below w.heap.size w w') := HDy
  have HUx : Hid (∀ w : World, Calls Try.prog 61 #[.agg #[.int .i64 x0, .int .i64 x1, .int .i64 x2, .int .i64 x3, .int .u32 x4, .int .i64 x5]] w (RdPost L1 w)) := HUx
  have HUy : Hid (∀ w : World, Calls Try.prog 61 #[.agg #[.int .i64 y0, .int .i64 y1, .int .i64 y2, .int .i64 y3, .int .u32 y4, .int .i64 y5]] w (RdPost L2 w)) := HUy
  have HCx : Hid (∀ a cap w, IntsIn w a L2 → Calls Try.prog 95 #[.slice a L2.length cap, .int .i64 x1] w fun e w' => e = .returned (.bool c1) ∧ w = w') := HCx
  have HCy : Hid (∀ a cap w, IntsIn w a L1 → Calls Try.prog 95 #[.slice a L1.length cap, .int .i64 y1] w fun e w' => e = .returned (.bool c2) ∧ w = w') := HCy
  go_enter Try.func100, Try.ntmps100
  go_upto_region 1 with (fail)
  generalize ((w.alloc (.cells #[.int .i64 x0, .int .i64 x1, .int .i64 x2, .int .i64 x3, .int .u32 x4, .int .i64 x5] 42)).alloc (.cells #[.int .i64 y0, .int .i64 y1, .int .i64 y2, .int .i64 y3, .int .u32 y4, .int .i64 y5] 42)) = w0 at *
  generalize hq : w.heap.size = q at HX HY
  obtain ⟨c0, c1', c2', c3, c4, c5⟩ := HX.out
  obtain ⟨d0, d1, d2, d3, d4, d5⟩ := HY.out
  simp only at c0 c1' c2' c3 c4 c5 d0 d1 d2 d3 d4 d5
  subst hq
  cases mx
  · skip
    go_wp2_with fail
    refine (HMx.out _).mono ?_; rintro e v1 ⟨rfl, rfl⟩
    go_wp2_with fail
    refine (HDx.out _).mono ?_; rintro e v2 ⟨rfl, hb⟩
    have c0 := keep c0 hb
    have c1' := keep c1' hb
    have c2' := keep c2' hb
    have c3 := keep c3 hb
    have c4 := keep c4 hb
    have c5 := keep c5 hb
    have d0 := keep d0 hb
    have d1 := keep d1 hb
    have d2 := keep d2 hb
    have d3 := keep d3 hb
    have d4 := keep d4 hb
    have d5 := keep d5 hb
    have HB0 := Lib.hid (HB0.out.trans (hb.mono HB0.out.size))
    clear hb
    go_wp2_with fail
    refine (HDy.out _).mono ?_; rintro e v3 ⟨rfl, hb⟩
    have c0 := keep c0 hb
    have c1' := keep c1' hb
    have c2' := keep c2' hb
    have c3 := keep c3 hb
    have c4 := keep c4 hb
    have c5 := keep c5 hb
    have d0 := keep d0 hb
    have d1 := keep d1 hb
    have d2 := keep d2 hb
    have d3 := keep d3 hb
    have d4 := keep d4 hb
    have d5 := keep d5 hb
    have HB0 := Lib.hid (HB0.out.trans (hb.mono HB0.out.size))
    clear hb
    cases b1
    · skip
      cases b2
      · skip
        go_wp2_with fail
        go_ret
        exact ⟨ret_bool (by rw [HRes.out]; simp), HB0.out⟩
      · skip
        go_wp2_with fail
        refine (HUx.out _).mono ?_; rintro e v4 ⟨⟨ua, uc, rfl, hui⟩, hb⟩; have HUi := Lib.hid hui; clear hui
        have c0 := keep c0 hb
        have c1' := keep c1' hb
        have c2' := keep c2' hb
        have c3 := keep c3 hb
        have c4 := keep c4 hb
        have c5 := keep c5 hb
        have d0 := keep d0 hb
        have d1 := keep d1 hb
        have d2 := keep d2 hb
        have d3 := keep d3 hb
        have d4 := keep d4 hb
        have d5 := keep d5 hb
        have HB0 := Lib.hid (HB0.out.trans (hb.mono HB0.out.size))
        clear hb
        go_wp2_with fail
        cases c2
        · skip
          refine (HCy.out _ _ _ HUi.out).mono ?_; rintro e v5 ⟨rfl, rfl⟩
          go_wp2_with fail
          go_ret
          exact ⟨ret_bool (by rw [HRes.out]; simp), HB0.out⟩
        · skip
          refine (HCy.out _ _ _ HUi.out).mono ?_; rintro e v6 ⟨rfl, rfl⟩
          go_wp2_with fail
          go_ret
          exact ⟨ret_bool (by rw [HRes.out]; simp), HB0.out⟩
    · skip
      go_wp2_with fail
      refine (HUy.out _).mono ?_; rintro e v7 ⟨⟨ua, uc, rfl, hui⟩, hb⟩; have HUi := Lib.hid hui; clear hui
      have c0 := keep c0 hb
      have c1' := keep c1' hb
      have c2' := keep c2' hb
      have c3 := keep c3 hb
      have c4 := keep c4 hb
      have c5 := keep c5 hb
      have d0 := keep d0 hb
      have d1 := keep d1 hb
      have d2 := keep d2 hb
      have d3 := keep d3 hb
      have d4 := keep d4 hb
      have d5 := keep d5 hb
      have HB0 := Lib.hid (HB0.out.trans (hb.mono HB0.out.size))
      clear hb
      go_wp2_with fail
      cases c1
      · skip
        refine (HCx.out _ _ _ HUi.out).mono ?_; rintro e v8 ⟨rfl, rfl⟩
        cases b2
        · skip
          go_wp2_with fail
          go_ret
          exact ⟨ret_bool (by rw [HRes.out]; simp), HB0.out⟩
        · skip
          go_wp2_with fail
          refine (HUx.out _).mono ?_; rintro e v9 ⟨⟨ua, uc, rfl, hui⟩, hb⟩; have HUi := Lib.hid hui; clear hui
          have c0 := keep c0 hb
          have c1' := keep c1' hb
          have c2' := keep c2' hb
          have c3 := keep c3 hb
          have c4 := keep c4 hb
          have c5 := keep c5 hb
          have d0 := keep d0 hb
          have d1 := keep d1 hb
          have d2 := keep d2 hb
          have d3 := keep d3 hb
          have d4 := keep d4 hb
          have d5 := keep d5 hb
          have HB0 := Lib.hid (HB0.out.trans (hb.mono HB0.out.size))
          clear hb
          go_wp2_with fail
          cases c2
          · skip
            refine (HCy.out _ _ _ HUi.out).mono ?_; rintro e v10 ⟨rfl, rfl⟩
            by_cases he : x1 = y1
            · go_wp2_with fail
              go_ret
              exact ⟨ret_bool (by rw [HRes.out]; simp; first | exact he | rfl), HB0.out⟩
            · go_wp2_with fail
              go_ret
              exact ⟨ret_bool (by rw [HRes.out]; simp; first | exact he | rfl), HB0.out⟩
          · skip
            refine (HCy.out _ _ _ HUi.out).mono ?_; rintro e v11 ⟨rfl, rfl⟩
            go_wp2_with fail
            go_ret
            exact ⟨ret_bool (by rw [HRes.out]; simp), HB0.out⟩
      · skip
        refine (HCx.out _ _ _ HUi.out).mono ?_; rintro e v12 ⟨rfl, rfl⟩
        go_wp2_with fail
        go_ret
        exact ⟨ret_bool (by rw [HRes.out]; simp), HB0.out⟩
  · skip
    go_wp2_with fail
    refine (HMx.out _).mono ?_; rintro e v13 ⟨rfl, rfl⟩
    go_wp2_with fail
    cases my
    · skip
      refine (HMy.out _).mono ?_; rintro e v14 ⟨rfl, rfl⟩
      go_wp2_with fail
      refine (HDx.out _).mono ?_; rintro e v15 ⟨rfl, hb⟩
      have c0 := keep c0 hb
      have c1' := keep c1' hb
      have c2' := keep c2' hb
      have c3 := keep c3 hb
      have c4 := keep c4 hb
      have c5 := keep c5 hb
      have d0 := keep d0 hb
      have d1 := keep d1 hb
      have d2 := keep d2 hb
      have d3 := keep d3 hb
      have d4 := keep d4 hb
      have d5 := keep d5 hb
      have HB0 := Lib.hid (HB0.out.trans (hb.mono HB0.out.size))
      clear hb
      go_wp2_with fail
      refine (HDy.out _).mono ?_; rintro e v16 ⟨rfl, hb⟩
      have c0 := keep c0 hb
      have c1' := keep c1' hb
      have c2' := keep c2' hb
      have c3 := keep c3 hb
      have c4 := keep c4 hb
      have c5 := keep c5 hb
      have d0 := keep d0 hb
      have d1 := keep d1 hb
      have d2 := keep d2 hb
      have d3 := keep d3 hb
      have d4 := keep d4 hb
      have d5 := keep d5 hb
      have HB0 := Lib.hid (HB0.out.trans (hb.mono HB0.out.size))
      clear hb
      cases b1
      · skip
        cases b2
        · skip
          go_wp2_with fail
          go_ret
          exact ⟨ret_bool (by rw [HRes.out]; simp), HB0.out⟩
        · skip
          go_wp2_with fail
          refine (HUx.out _).mono ?_; rintro e v17 ⟨⟨ua, uc, rfl, hui⟩, hb⟩; have HUi := Lib.hid hui; clear hui
          have c0 := keep c0 hb
          have c1' := keep c1' hb
          have c2' := keep c2' hb
          have c3 := keep c3 hb
          have c4 := keep c4 hb
          have c5 := keep c5 hb
          have d0 := keep d0 hb
          have d1 := keep d1 hb
          have d2 := keep d2 hb
          have d3 := keep d3 hb
          have d4 := keep d4 hb
          have d5 := keep d5 hb
          have HB0 := Lib.hid (HB0.out.trans (hb.mono HB0.out.size))
          clear hb
          go_wp2_with fail
          cases c2
          · skip
            refine (HCy.out _ _ _ HUi.out).mono ?_; rintro e v18 ⟨rfl, rfl⟩
            go_wp2_with fail
            go_ret
            exact ⟨ret_bool (by rw [HRes.out]; simp), HB0.out⟩
          · skip
            refine (HCy.out _ _ _ HUi.out).mono ?_; rintro e v19 ⟨rfl, rfl⟩
            go_wp2_with fail
            go_ret
            exact ⟨ret_bool (by rw [HRes.out]; simp), HB0.out⟩
      · skip
        go_wp2_with fail
        refine (HUy.out _).mono ?_; rintro e v20 ⟨⟨ua, uc, rfl, hui⟩, hb⟩; have HUi := Lib.hid hui; clear hui
        have c0 := keep c0 hb
        have c1' := keep c1' hb
        have c2' := keep c2' hb
        have c3 := keep c3 hb
        have c4 := keep c4 hb
        have c5 := keep c5 hb
        have d0 := keep d0 hb
        have d1 := keep d1 hb
        have d2 := keep d2 hb
        have d3 := keep d3 hb
        have d4 := keep d4 hb
        have d5 := keep d5 hb
        have HB0 := Lib.hid (HB0.out.trans (hb.mono HB0.out.size))
        clear hb
        go_wp2_with fail
        cases c1
        · skip
          refine (HCx.out _ _ _ HUi.out).mono ?_; rintro e v21 ⟨rfl, rfl⟩
          cases b2
          · skip
            go_wp2_with fail
            go_ret
            exact ⟨ret_bool (by rw [HRes.out]; simp), HB0.out⟩
          · skip
            go_wp2_with fail
            refine (HUx.out _).mono ?_; rintro e v22 ⟨⟨ua, uc, rfl, hui⟩, hb⟩; have HUi := Lib.hid hui; clear hui
            have c0 := keep c0 hb
            have c1' := keep c1' hb
            have c2' := keep c2' hb
            have c3 := keep c3 hb
            have c4 := keep c4 hb
            have c5 := keep c5 hb
            have d0 := keep d0 hb
            have d1 := keep d1 hb
            have d2 := keep d2 hb
            have d3 := keep d3 hb
            have d4 := keep d4 hb
            have d5 := keep d5 hb
            have HB0 := Lib.hid (HB0.out.trans (hb.mono HB0.out.size))
            clear hb
            go_wp2_with fail
            cases c2
            · skip
              refine (HCy.out _ _ _ HUi.out).mono ?_; rintro e v23 ⟨rfl, rfl⟩
              by_cases he : x1 = y1
              · go_wp2_with fail
                go_ret
                exact ⟨ret_bool (by rw [HRes.out]; simp; first | exact he | rfl), HB0.out⟩
              · go_wp2_with fail
                go_ret
                exact ⟨ret_bool (by rw [HRes.out]; simp; first | exact he | rfl), HB0.out⟩
            · skip
              refine (HCy.out _ _ _ HUi.out).mono ?_; rintro e v24 ⟨rfl, rfl⟩
              go_wp2_with fail
              go_ret
              exact ⟨ret_bool (by rw [HRes.out]; simp), HB0.out⟩
        · skip
          refine (HCx.out _ _ _ HUi.out).mono ?_; rintro e v25 ⟨rfl, rfl⟩
          go_wp2_with fail
          go_ret
          exact ⟨ret_bool (by rw [HRes.out]; simp), HB0.out⟩
    · skip
      refine (HMy.out _).mono ?_; rintro e v26 ⟨rfl, rfl⟩
      go_wp2_with fail
      cases sx
      · skip
        refine (HSx.out _).mono ?_; rintro e v27 ⟨rfl, rfl⟩
        go_wp2_with fail
        cases sy
        · skip
          refine (HSy.out _).mono ?_; rintro e v28 ⟨rfl, rfl⟩
          go_wp2_with fail
          refine (HDx.out _).mono ?_; rintro e v29 ⟨rfl, hb⟩
          have c0 := keep c0 hb
          have c1' := keep c1' hb
          have c2' := keep c2' hb
          have c3 := keep c3 hb
          have c4 := keep c4 hb
          have c5 := keep c5 hb
          have d0 := keep d0 hb
          have d1 := keep d1 hb
          have d2 := keep d2 hb
          have d3 := keep d3 hb
          have d4 := keep d4 hb
          have d5 := keep d5 hb
          have HB0 := Lib.hid (HB0.out.trans (hb.mono HB0.out.size))
          clear hb
          go_wp2_with fail
          refine (HDy.out _).mono ?_; rintro e v30 ⟨rfl, hb⟩
          have c0 := keep c0 hb
          have c1' := keep c1' hb
          have c2' := keep c2' hb
          have c3 := keep c3 hb
          have c4 := keep c4 hb
          have c5 := keep c5 hb
          have d0 := keep d0 hb
          have d1 := keep d1 hb
          have d2 := keep d2 hb
          have d3 := keep d3 hb
          have d4 := keep d4 hb
          have d5 := keep d5 hb
          have HB0 := Lib.hid (HB0.out.trans (hb.mono HB0.out.size))
          clear hb
          cases b1
          · skip
            cases b2
            · skip
              go_wp2_with fail
              go_ret
              exact ⟨ret_bool (by rw [HRes.out]; simp), HB0.out⟩
            · skip
              go_wp2_with fail
              refine (HUx.out _).mono ?_; rintro e v31 ⟨⟨ua, uc, rfl, hui⟩, hb⟩; have HUi := Lib.hid hui; clear hui
              have c0 := keep c0 hb
              have c1' := keep c1' hb
              have c2' := keep c2' hb
              have c3 := keep c3 hb
              have c4 := keep c4 hb
              have c5 := keep c5 hb
              have d0 := keep d0 hb
              have d1 := keep d1 hb
              have d2 := keep d2 hb
              have d3 := keep d3 hb
              have d4 := keep d4 hb
              have d5 := keep d5 hb
              have HB0 := Lib.hid (HB0.out.trans (hb.mono HB0.out.size))
              clear hb
              go_wp2_with fail
              cases c2
              · skip
                refine (HCy.out _ _ _ HUi.out).mono ?_; rintro e v32 ⟨rfl, rfl⟩
                go_wp2_with fail
                go_ret
                exact ⟨ret_bool (by rw [HRes.out]; simp), HB0.out⟩
              · skip
                refine (HCy.out _ _ _ HUi.out).mono ?_; rintro e v33 ⟨rfl, rfl⟩
                go_wp2_with fail
                go_ret
                exact ⟨ret_bool (by rw [HRes.out]; simp), HB0.out⟩
          · skip
            go_wp2_with fail
            refine (HUy.out _).mono ?_; rintro e v34 ⟨⟨ua, uc, rfl, hui⟩, hb⟩; have HUi := Lib.hid hui; clear hui
            have c0 := keep c0 hb
            have c1' := keep c1' hb
            have c2' := keep c2' hb
            have c3 := keep c3 hb
            have c4 := keep c4 hb
            have c5 := keep c5 hb
            have d0 := keep d0 hb
            have d1 := keep d1 hb
            have d2 := keep d2 hb
            have d3 := keep d3 hb
            have d4 := keep d4 hb
            have d5 := keep d5 hb
            have HB0 := Lib.hid (HB0.out.trans (hb.mono HB0.out.size))
            clear hb
            go_wp2_with fail
            cases c1
            · skip
              refine (HCx.out _ _ _ HUi.out).mono ?_; rintro e v35 ⟨rfl, rfl⟩
              cases b2
              · skip
                go_wp2_with fail
                go_ret
                exact ⟨ret_bool (by rw [HRes.out]; simp), HB0.out⟩
              · skip
                go_wp2_with fail
                refine (HUx.out _).mono ?_; rintro e v36 ⟨⟨ua, uc, rfl, hui⟩, hb⟩; have HUi := Lib.hid hui; clear hui
                have c0 := keep c0 hb
                have c1' := keep c1' hb
                have c2' := keep c2' hb
                have c3 := keep c3 hb
                have c4 := keep c4 hb
                have c5 := keep c5 hb
                have d0 := keep d0 hb
                have d1 := keep d1 hb
                have d2 := keep d2 hb
                have d3 := keep d3 hb
                have d4 := keep d4 hb
                have d5 := keep d5 hb
                have HB0 := Lib.hid (HB0.out.trans (hb.mono HB0.out.size))
                clear hb
                go_wp2_with fail
                cases c2
                · skip
                  refine (HCy.out _ _ _ HUi.out).mono ?_; rintro e v37 ⟨rfl, rfl⟩
                  by_cases he : x1 = y1
                  · go_wp2_with fail
                    go_ret
                    exact ⟨ret_bool (by rw [HRes.out]; simp; first | exact he | rfl), HB0.out⟩
                  · go_wp2_with fail
                    go_ret
                    exact ⟨ret_bool (by rw [HRes.out]; simp; first | exact he | rfl), HB0.out⟩
                · skip
                  refine (HCy.out _ _ _ HUi.out).mono ?_; rintro e v38 ⟨rfl, rfl⟩
                  go_wp2_with fail
                  go_ret
                  exact ⟨ret_bool (by rw [HRes.out]; simp), HB0.out⟩
            · skip
              refine (HCx.out _ _ _ HUi.out).mono ?_; rintro e v39 ⟨rfl, rfl⟩
              go_wp2_with fail
              go_ret
              exact ⟨ret_bool (by rw [HRes.out]; simp), HB0.out⟩
        · skip
          refine (HSy.out _).mono ?_; rintro e v40 ⟨rfl, rfl⟩
          go_wp2_with fail
          go_ret
          exact ⟨ret_bool (by rw [HRes.out]; simp), HB0.out⟩
      · skip
        refine (HSx.out _).mono ?_; rintro e v41 ⟨rfl, rfl⟩
        go_wp2_with fail
        go_ret
        exact ⟨ret_bool (by rw [HRes.out]; simp), HB0.out⟩
end Go.Proofs.Ytccpjfppkahbmaa
