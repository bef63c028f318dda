/- The walks of the specification's has and depends. -/
import Derived.Test.YtccpjfppkahbmaaD1
namespace Go.Proofs.Ytccpjfppkahbmaa
open Go.RowKit PK

theorem rMem_any (n : Int) (w : World) : Calls Try.prog 104 #[.int .i64 n] w fun e w' => e = .returned (.bool (memB n)) ∧ w = w' := by
  go_enter Try.func104, Try.ntmps104
  go_upto_region 1 with (fail)
  by_cases h0 : 18 ≤ n
  · by_cases h1 : n ≤ 23
    · go_wp2_with fail
      go_ret
      exact ⟨ret_bool (by unfold memB; simp [h0, h1]), rfl⟩
    · go_wp2_with fail
      go_ret
      exact ⟨ret_bool (by unfold memB; simp; omega), rfl⟩
  · go_wp2_with fail
    go_ret
    exact ⟨ret_bool (by unfold memB; simp; omega), rfl⟩
theorem mem_rd {x : Cd} (h : okC x = true) (r : Int) : r ∈ rdR x ↔ r ∈ usesL x := by
  obtain ⟨h0, h1, _⟩ := okC_parts h
  have ha := okC_a0 h
  obtain ⟨p, d, a, b, i, to⟩ := x
  simp only at h0 h1 ha
  unfold rdR usesL
  simp only
  have hpair : ∀ r : Int, r ∈ [a, b] ↔ r ∈ (if (!decide (b = a)) = true then (if b < a then [b, a] else [a, b]) else [a]) := fun r => by
    by_cases h : b = a
    · subst h; simp
    · simp only [h, decide_false, Bool.not_false, if_true]
      split
      · simp only [List.mem_cons, List.not_mem_nil, or_false]; exact Or.comm
      · rfl
  by_cases c1 : p = 1
  · subst c1
    have := ha (by decide)
    have e1 : fA 1 = true := by decide
    have e2 : fB 1 = false := by decide
    simp [e1, e2, this]
  by_cases c2 : 2 ≤ p ∧ p ≤ 17
  · have := ha (by omega)
    have e1 : fA p = true := by unfold fA; simp; omega
    have e2 : fB p = true := by unfold fB; simp; omega
    rw [if_neg c1, if_pos c2, e1, e2]
    simp only [Bool.true_and, decide_eq_true_eq, if_pos this]
    exact hpair r
  by_cases c3 : 18 ≤ p ∧ p ≤ 20
  · have e1 : fA p = true := by unfold fA; simp; omega
    have e2 : fB p = false := by unfold fB; simp; omega
    have e3 : stB p = false := by unfold stB; simp; omega
    rw [if_neg c1, if_neg c2, e1, e2, e3]
    by_cases h4 : 0 ≤ a
    · rw [if_pos ⟨c3.1, c3.2, h4⟩]; simp [h4]
    · rw [if_neg (fun c => h4 c.2.2)]; simp [h4]
  by_cases c4 : 21 ≤ p ∧ p ≤ 23
  · have e1 : fA p = true := by unfold fA; simp; omega
    have e2 : fB p = true := by unfold fB; simp; omega
    have e3 : stB p = true := by unfold stB; simp; omega
    rw [if_neg c1, if_neg c2, if_neg (fun c => c3 ⟨c.1, c.2.1⟩), e1, e2, e3]
    by_cases h4 : 0 ≤ a
    · rw [if_pos ⟨rfl, h4⟩]
      simp only [Bool.true_and, decide_eq_true_eq, if_pos h4]
      exact hpair r
    · rw [if_neg (fun c => h4 c.2)]; simp [h4]
  · have e0 : p = 0 := by omega
    subst e0
    rfl
theorem rd_contains {x : Cd} (h : okC x = true) (r : Int) : (rdR x).contains r = (usesL x).contains r := by
  rw [Bool.eq_iff_iff, List.contains_iff_mem, List.contains_iff_mem]
  exact mem_rd h r
/-- depends, as the specification spells it. -/
def depR (x y : Cd) : Bool := (decide (0 ≤ wrR x) && ((rdR y).contains (wrR x) || decide (wrR y = wrR x))) || ((decide (0 ≤ wrR y) && (rdR x).contains (wrR y)) || (memB x.op && (memB y.op && (stB x.op || stB y.op))))
theorem wrR_val {x : Cd} (h : okC x = true) : (fD x.op = true ∧ wrR x = x.d ∧ 0 ≤ x.d) ∨ (fD x.op = false ∧ wrR x = -1) := by
  have hd := okC_d h
  unfold wrR fD
  by_cases c : 0 ≤ x.op ∧ x.op ≤ 20
  · rw [if_pos c]; exact .inl ⟨by simp [c], rfl, hd.1⟩
  · rw [if_neg c]; exact .inr ⟨by rw [decide_eq_false_iff_not]; exact c, rfl⟩
theorem depR_eq {x y : Cd} (hx : okC x = true) (hy : okC y = true) : depR x y = depB x y := by
  unfold depR depB
  rw [rd_contains hx, rd_contains hy]
  rcases wrR_val hx with ⟨e1, e2, e3⟩ | ⟨e1, e2⟩ <;> rcases wrR_val hy with ⟨f1, f2, f3⟩ | ⟨f1, f2⟩ <;> rw [e1, e2, f1, f2]
  · rw [decide_eq_true e3, decide_eq_true f3, show decide (y.d = x.d) = decide (x.d = y.d) from decide_eq_decide.2 eq_comm]
    generalize (usesL y).contains x.d = a
    generalize (usesL x).contains y.d = b
    generalize decide (x.d = y.d) = c
    generalize (memB x.op && (memB y.op && (stB x.op || stB y.op))) = m
    cases a <;> cases b <;> cases c <;> cases m <;> rfl
  · rw [decide_eq_true e3, decide_eq_false (show ¬ (0 : Int) ≤ -1 by omega), decide_eq_false (show ¬ (-1 : Int) = x.d by omega)]
    generalize (usesL y).contains x.d = a
    generalize (memB x.op && (memB y.op && (stB x.op || stB y.op))) = m
    cases a <;> cases m <;> rfl
  · rw [decide_eq_true f3, decide_eq_false (show ¬ (0 : Int) ≤ -1 by omega)]
    generalize (usesL x).contains y.d = a
    generalize (memB x.op && (memB y.op && (stB x.op || stB y.op))) = m
    cases a <;> cases m <;> rfl
  · rw [decide_eq_false (show ¬ (0 : Int) ≤ -1 by omega)]
    generalize (memB x.op && (memB y.op && (stB x.op || stB y.op))) = m
    cases m <;> rfl
theorem contains_take {l : List Int} {k : Nat} (h : k < l.length) (r : Int) : (l.take (k + 1)).contains r = ((l.take k).contains r || decide (l.getD k 0 = r)) := by
  rw [List.take_succ_eq_append_getElem h, List.contains_append, List.getD_eq_getElem?_getD, List.getElem?_eq_getElem h, Option.getD_some, List.contains_cons, List.contains_nil, Bool.or_false]
  congr 1
  rw [Bool.eq_iff_iff, beq_iff_eq, decide_eq_true_eq]
  exact eq_comm
set_option maxHeartbeats 1000000 in
theorem has_any (l : List Int) (a : Option Addr) (cap : Nat) (r : Int) (w : World) (hin : IntsIn w a l) (hl : l.length ≤ 1000000) :
    Calls Try.prog 90 #[.slice a l.length cap, .int .i64 r] w fun e w' => e = .returned (.bool (l.contains r)) ∧ w = w' := by
  have HI := Lib.hid hin
  clear hin
  generalize hres : l.contains r = RES
  have HRes := Lib.hid hres
  clear hres
  go_enter Try.func90, Try.ntmps90
  go_wp2_with fail
  go_loopw [5] (fun i wr => ∃ k : Nat, k ≤ l.length ∧ i = .int .i64 k ∧ (l.take k).contains r = false ∧ w = wr) (fun i _ => l.length - (intOf i).toNat)
  case atStart => exact ⟨0, Nat.zero_le _, rfl, rfl, by trivial⟩
  case round =>
    obtain ⟨k, hk, rfl, hno, rfl⟩ := hrel
    have HNo := Lib.hid hno
    clear hno
    by_cases hlt : k < l.length
    · have hki : (k : Int) < (l.length : Int) := by omega
      obtain ⟨b, off, rfl, hc⟩ := HI.out k hlt
      have HT := Lib.hid (contains_take hlt r)
      generalize hx : l.getD k 0 = x at *
      have HX := Lib.hid hx
      clear hx
      by_cases he : x = r
      · subst he
        go_wp2_with fail
        go_ret
        refine ⟨ret_bool ?_, rfl⟩
        rw [← HRes.out]
        symm
        rw [List.contains_iff_mem, ← HX.out, List.getD_eq_getElem?_getD, List.getElem?_eq_getElem hlt]
        exact List.getElem_mem hlt
      · go_wp2_with fail
        go_roundw
        case rel => exact ⟨k + 1, by omega, by go_num, by rw [HT.out, HNo.out, decide_eq_false he]; rfl, by trivial⟩
        case measure => simp [intOf]; omega
    · obtain rfl : k = l.length := by omega
      go_wp2_with fail
      go_ret
      refine ⟨ret_bool ?_, rfl⟩
      have := HNo.out
      rw [List.take_length] at this
      rw [← HRes.out, this]
theorem has_is {l : List Int} {r : Int} {b : Bool} (hr : l.contains r = b) {a : Option Addr} {cap : Nat} {w : World} (hin : IntsIn w a l) (hl : l.length ≤ 1000000) :
    Calls Try.prog 90 #[.slice a l.length cap, .int .i64 r] w fun e w' => e = .returned (.bool b) ∧ w = w' := by
  rw [← hr]; exact has_any l a cap r w hin hl
set_option maxRecDepth 100000 in
set_option maxHeartbeats 8000000 in
theorem rDepends_any0 (x y : Cd) (w : World) : Calls Try.prog 70 #[(.agg #[.int .i64 x.op, .int .i64 x.d, .int .i64 x.a, .int .i64 x.b, .int .u32 x.im, .int .i64 x.to]), (.agg #[.int .i64 y.op, .int .i64 y.d, .int .i64 y.a, .int .i64 y.b, .int .u32 y.im, .int .i64 y.to])] w fun e w' => e = .returned (.bool (depR x y)) ∧ Below w.heap.size w w' := by
  have HB0 := Lib.hid (((Below.refl w.heap.size w).alloc (Nat.le_refl _) (.cells #[.int .i64 x.op, .int .i64 x.d, .int .i64 x.a, .int .i64 x.b, .int .u32 x.im, .int .i64 x.to] 42)).alloc (by simp) (.cells #[.int .i64 y.op, .int .i64 y.d, .int .i64 y.a, .int .i64 y.b, .int .u32 y.im, .int .i64 y.to] 42))
  have HX := Lib.hid ((cdAt_new w x 42).keep ((Below.refl _ _).alloc (Nat.le_refl _) (.cells #[.int .i64 y.op, .int .i64 y.d, .int .i64 y.a, .int .i64 y.b, .int .u32 y.im, .int .i64 y.to] 42)))
  have hY := cdAt_new (w.alloc (.cells #[.int .i64 x.op, .int .i64 x.d, .int .i64 x.a, .int .i64 x.b, .int .u32 x.im, .int .i64 x.to] 42)) y 42
  rw [World.size_alloc] at hY
  have HY := Lib.hid hY
  clear hY
  have HMx := Lib.hid (rMem_any x.op)
  have HMy := Lib.hid (rMem_any y.op)
  have HSx := Lib.hid (store_any x.op)
  have HSy := Lib.hid (store_any y.op)
  have HW : Hid (∀ (a0 a1 a2 a3 : Int) (a4 : Nat) (a5 : Int) (w : World), Calls Try.prog 64 #[.agg #[.int .i64 a0, .int .i64 a1, .int .i64 a2, .int .i64 a3, .int .u32 a4, .int .i64 a5]] w fun e w' => e = .returned (.int .i64 (wrR ⟨a0, a1, a2, a3, a4, a5⟩)) ∧ Below w.heap.size w w') := Lib.hid (fun a0 a1 a2 a3 a4 a5 w => writes_any ⟨a0, a1, a2, a3, a4, a5⟩ w)
  have HUx := Lib.hid (reads_any x)
  have HUy := Lib.hid (reads_any y)
  have HCx := Lib.hid (fun a cap w hin => has_is (rfl : (rdR y).contains (wrR x) = _) (a := a) (cap := cap) (w := w) hin (Nat.le_trans (rdR_len y) (by omega)))
  have HCy := Lib.hid (fun a cap w hin => has_is (rfl : (rdR x).contains (wrR y) = _) (a := a) (cap := cap) (w := w) hin (Nat.le_trans (rdR_len x) (by omega)))
  generalize hres : depR x y = RES
  have HRes : Hid (RES = depR x y) := Lib.hid hres.symm
  clear hres
  unfold depR at HRes
  generalize (rdR y).contains (wrR x) = c1 at *
  generalize (rdR x).contains (wrR y) = c2 at *
  generalize rdR x = L1 at *
  generalize rdR y = L2 at *
  generalize memB x.op = mx at *
  generalize memB y.op = my at *
  generalize stB x.op = sx at *
  generalize stB y.op = sy at *
  obtain ⟨x0, x1, x2, x3, x4, x5⟩ := x
  obtain ⟨y0, y1, y2, y3, y4, y5⟩ := y
  have HX : Hid (CdAt ((w.alloc (.cells #[.int .i64 x0, .int .i64 x1, .int .i64 x2, .int .i64 x3, .int .u32 x4, .int .i64 x5] 42)).alloc (.cells #[.int .i64 y0, .int .i64 y1, .int .i64 y2, .int .i64 y3, .int .u32 y4, .int .i64 y5] 42)) w.heap.size 0 ⟨x0, x1, x2, x3, x4, x5⟩) := HX
  have HY : Hid (CdAt ((w.alloc (.cells #[.int .i64 x0, .int .i64 x1, .int .i64 x2, .int .i64 x3, .int .u32 x4, .int .i64 x5] 42)).alloc (.cells #[.int .i64 y0, .int .i64 y1, .int .i64 y2, .int .i64 y3, .int .u32 y4, .int .i64 y5] 42)) (w.heap.size + 1) 0 ⟨y0, y1, y2, y3, y4, y5⟩) := HY
  have HB0 : Hid (Below w.heap.size w ((w.alloc (.cells #[.int .i64 x0, .int .i64 x1, .int .i64 x2, .int .i64 x3, .int .u32 x4, .int .i64 x5] 42)).alloc (.cells #[.int .i64 y0, .int .i64 y1, .int .i64 y2, .int .i64 y3, .int .u32 y4, .int .i64 y5] 42))) := HB0
  have HMx : Hid (∀ w : World, Calls Try.prog 104 #[.int .i64 x0] w fun e w' => e = .returned (.bool mx) ∧ w = w') := HMx
  have HMy : Hid (∀ w : World, Calls Try.prog 104 #[.int .i64 y0] w fun e w' => e = .returned (.bool my) ∧ w = w') := HMy
  have HSx : Hid (∀ w : World, Calls Try.prog 77 #[.int .i64 x0] w fun e w' => e = .returned (.bool sx) ∧ w = w') := HSx
  have HSy : Hid (∀ w : World, Calls Try.prog 77 #[.int .i64 y0] w fun e w' => e = .returned (.bool sy) ∧ w = w') := HSy
  have HUx : Hid (∀ w : World, Calls Try.prog 63 #[.agg #[.int .i64 x0, .int .i64 x1, .int .i64 x2, .int .i64 x3, .int .u32 x4, .int .i64 x5]] w (RdPost L1 w)) := HUx
  have HUy : Hid (∀ w : World, Calls Try.prog 63 #[.agg #[.int .i64 y0, .int .i64 y1, .int .i64 y2, .int .i64 y3, .int .u32 y4, .int .i64 y5]] w (RdPost L2 w)) := HUy
  have HCx : Hid (∀ a cap w, IntsIn w a L2 → Calls Try.prog 90 #[.slice a L2.length cap, .int .i64 (wrR ⟨x0, x1, x2, x3, x4, x5⟩)] w fun e w' => e = .returned (.bool c1) ∧ w = w') := HCx
  have HCy : Hid (∀ a cap w, IntsIn w a L1 → Calls Try.prog 90 #[.slice a L1.length cap, .int .i64 (wrR ⟨y0, y1, y2, y3, y4, y5⟩)] w fun e w' => e = .returned (.bool c2) ∧ w = w') := HCy
  go_enter Try.func70, Try.ntmps70
  go_upto_region 1 with (fail)
  generalize ((w.alloc (.cells #[.int .i64 x0, .int .i64 x1, .int .i64 x2, .int .i64 x3, .int .u32 x4, .int .i64 x5] 42)).alloc (.cells #[.int .i64 y0, .int .i64 y1, .int .i64 y2, .int .i64 y3, .int .u32 y4, .int .i64 y5] 42)) = w0 at *
  generalize hq : w.heap.size = q at HX HY
  obtain ⟨c0, c1', c2', c3, c4, c5⟩ := HX.out
  obtain ⟨d0, d1, d2, d3, d4, d5⟩ := HY.out
  simp only at c0 c1' c2' c3 c4 c5 d0 d1 d2 d3 d4 d5
  subst hq
  go_region_held3 (fun w' => w'.cell? ⟨w.heap.size, 0, none⟩ = some (.int .i64 x0) ∧ w'.cell? ⟨w.heap.size, 1, none⟩ = some (.int .i64 x1) ∧ w'.cell? ⟨w.heap.size, 2, none⟩ = some (.int .i64 x2) ∧ w'.cell? ⟨w.heap.size, 3, none⟩ = some (.int .i64 x3) ∧ w'.cell? ⟨w.heap.size, 4, none⟩ = some (.int .u32 x4) ∧ w'.cell? ⟨w.heap.size, 5, none⟩ = some (.int .i64 x5) ∧ w'.cell? ⟨(w.heap.size + 1), 0, none⟩ = some (.int .i64 y0) ∧ w'.cell? ⟨(w.heap.size + 1), 1, none⟩ = some (.int .i64 y1) ∧ w'.cell? ⟨(w.heap.size + 1), 2, none⟩ = some (.int .i64 y2) ∧ w'.cell? ⟨(w.heap.size + 1), 3, none⟩ = some (.int .i64 y3) ∧ w'.cell? ⟨(w.heap.size + 1), 4, none⟩ = some (.int .u32 y4) ∧ w'.cell? ⟨(w.heap.size + 1), 5, none⟩ = some (.int .i64 y5))
    (first | exact ⟨c0, c1', c2', c3, c4, c5, d0, d1, d2, d3, d4, d5⟩)
    (first | (go_at_call 64; refine (HW.out _ _ _ _ _ _ _).mono ?_; rintro e w5 ⟨rfl, hb5⟩; have hb5 := (by first | exact below_of_drew hb5 | exact hb5); have c0 := keep c0 hb5; have c1' := keep c1' hb5; have c2' := keep c2' hb5; have c3 := keep c3 hb5; have c4 := keep c4 hb5; have c5 := keep c5 hb5; have d0 := keep d0 hb5; have d1 := keep d1 hb5; have d2 := keep d2 hb5; have d3 := keep d3 hb5; have d4 := keep d4 hb5; have d5 := keep d5 hb5; have HB0 := Lib.hid (HB0.out.trans (hb5.mono HB0.out.size)); clear hb5))
  generalize wrR ⟨x0, x1, x2, x3, x4, x5⟩ = wx at *
  generalize wrR ⟨y0, y1, y2, y3, y4, y5⟩ = wy at *
  by_cases hA : 0 ≤ wx
  · skip
    go_wp2_with fail
    refine (HUy.out _).mono ?_; rintro e v42 ⟨⟨ua, uc, rfl, hui⟩, hb⟩; have HUi := Lib.hid hui; clear hui
    have c0 := keep c0 hb
    have c1' := keep c1' hb
    have c2' := keep c2' hb
    have c3 := keep c3 hb
    have c4 := keep c4 hb
    have c5 := keep c5 hb
    have d0 := keep d0 hb
    have d1 := keep d1 hb
    have d2 := keep d2 hb
    have d3 := keep d3 hb
    have d4 := keep d4 hb
    have d5 := keep d5 hb
    have HB0 := Lib.hid (HB0.out.trans (hb.mono HB0.out.size))
    clear hb
    go_wp2_with fail
    cases c1
    · skip
      refine (HCx.out _ _ _ HUi.out).mono ?_; rintro e v43 ⟨rfl, rfl⟩
      by_cases hC : wy = wx
      · skip
        go_wp2_with fail
        go_ret
        exact ⟨ret_bool (by rw [HRes.out, decide_eq_true (show 0 ≤ wx by omega), decide_eq_true (show wy = wx by omega)]; try rfl), HB0.out⟩
      · skip
        by_cases hD : 0 ≤ wy
        · skip
          go_wp2_with fail
          refine (HUx.out _).mono ?_; rintro e v44 ⟨⟨ua, uc, rfl, hui⟩, hb⟩; have HUi := Lib.hid hui; clear hui
          have c0 := keep c0 hb
          have c1' := keep c1' hb
          have c2' := keep c2' hb
          have c3 := keep c3 hb
          have c4 := keep c4 hb
          have c5 := keep c5 hb
          have d0 := keep d0 hb
          have d1 := keep d1 hb
          have d2 := keep d2 hb
          have d3 := keep d3 hb
          have d4 := keep d4 hb
          have d5 := keep d5 hb
          have HB0 := Lib.hid (HB0.out.trans (hb.mono HB0.out.size))
          clear hb
          go_wp2_with fail
          cases c2
          · skip
            refine (HCy.out _ _ _ HUi.out).mono ?_; rintro e v45 ⟨rfl, rfl⟩
            cases mx
            · skip
              go_wp2_with fail
              refine (HMx.out _).mono ?_; rintro e v46 ⟨rfl, rfl⟩
              go_wp2_with fail
              go_ret
              exact ⟨ret_bool (by rw [HRes.out, decide_eq_true (show 0 ≤ wx by omega), decide_eq_false (show ¬ wy = wx by omega), decide_eq_true (show 0 ≤ wy by omega)]; try rfl), HB0.out⟩
            · skip
              go_wp2_with fail
              refine (HMx.out _).mono ?_; rintro e v47 ⟨rfl, rfl⟩
              go_wp2_with fail
              cases my
              · skip
                refine (HMy.out _).mono ?_; rintro e v48 ⟨rfl, rfl⟩
                go_wp2_with fail
                go_ret
                exact ⟨ret_bool (by rw [HRes.out, decide_eq_true (show 0 ≤ wx by omega), decide_eq_false (show ¬ wy = wx by omega), decide_eq_true (show 0 ≤ wy by omega)]; try rfl), HB0.out⟩
              · skip
                refine (HMy.out _).mono ?_; rintro e v49 ⟨rfl, rfl⟩
                go_wp2_with fail
                cases sx
                · skip
                  refine (HSx.out _).mono ?_; rintro e v50 ⟨rfl, rfl⟩
                  go_wp2_with fail
                  cases sy
                  · skip
                    refine (HSy.out _).mono ?_; rintro e v51 ⟨rfl, rfl⟩
                    go_wp2_with fail
                    go_ret
                    exact ⟨ret_bool (by rw [HRes.out, decide_eq_true (show 0 ≤ wx by omega), decide_eq_false (show ¬ wy = wx by omega), decide_eq_true (show 0 ≤ wy by omega)]; try rfl), HB0.out⟩
                  · skip
                    refine (HSy.out _).mono ?_; rintro e v52 ⟨rfl, rfl⟩
                    go_wp2_with fail
                    go_ret
                    exact ⟨ret_bool (by rw [HRes.out, decide_eq_true (show 0 ≤ wx by omega), decide_eq_false (show ¬ wy = wx by omega), decide_eq_true (show 0 ≤ wy by omega)]; try rfl), HB0.out⟩
                · skip
                  refine (HSx.out _).mono ?_; rintro e v53 ⟨rfl, rfl⟩
                  go_wp2_with fail
                  go_ret
                  exact ⟨ret_bool (by rw [HRes.out, decide_eq_true (show 0 ≤ wx by omega), decide_eq_false (show ¬ wy = wx by omega), decide_eq_true (show 0 ≤ wy by omega)]; try rfl), HB0.out⟩
          · skip
            refine (HCy.out _ _ _ HUi.out).mono ?_; rintro e v54 ⟨rfl, rfl⟩
            go_wp2_with fail
            go_ret
            exact ⟨ret_bool (by rw [HRes.out, decide_eq_true (show 0 ≤ wx by omega), decide_eq_false (show ¬ wy = wx by omega), decide_eq_true (show 0 ≤ wy by omega)]; try rfl), HB0.out⟩
        · skip
          cases mx
          · skip
            go_wp2_with fail
            refine (HMx.out _).mono ?_; rintro e v55 ⟨rfl, rfl⟩
            go_wp2_with fail
            go_ret
            exact ⟨ret_bool (by rw [HRes.out, decide_eq_true (show 0 ≤ wx by omega), decide_eq_false (show ¬ wy = wx by omega), decide_eq_false (show ¬ 0 ≤ wy by omega)]; try rfl), HB0.out⟩
          · skip
            go_wp2_with fail
            refine (HMx.out _).mono ?_; rintro e v56 ⟨rfl, rfl⟩
            go_wp2_with fail
            cases my
            · skip
              refine (HMy.out _).mono ?_; rintro e v57 ⟨rfl, rfl⟩
              go_wp2_with fail
              go_ret
              exact ⟨ret_bool (by rw [HRes.out, decide_eq_true (show 0 ≤ wx by omega), decide_eq_false (show ¬ wy = wx by omega), decide_eq_false (show ¬ 0 ≤ wy by omega)]; try rfl), HB0.out⟩
            · skip
              refine (HMy.out _).mono ?_; rintro e v58 ⟨rfl, rfl⟩
              go_wp2_with fail
              cases sx
              · skip
                refine (HSx.out _).mono ?_; rintro e v59 ⟨rfl, rfl⟩
                go_wp2_with fail
                cases sy
                · skip
                  refine (HSy.out _).mono ?_; rintro e v60 ⟨rfl, rfl⟩
                  go_wp2_with fail
                  go_ret
                  exact ⟨ret_bool (by rw [HRes.out, decide_eq_true (show 0 ≤ wx by omega), decide_eq_false (show ¬ wy = wx by omega), decide_eq_false (show ¬ 0 ≤ wy by omega)]; try rfl), HB0.out⟩
                · skip
                  refine (HSy.out _).mono ?_; rintro e v61 ⟨rfl, rfl⟩
                  go_wp2_with fail
                  go_ret
                  exact ⟨ret_bool (by rw [HRes.out, decide_eq_true (show 0 ≤ wx by omega), decide_eq_false (show ¬ wy = wx by omega), decide_eq_false (show ¬ 0 ≤ wy by omega)]; try rfl), HB0.out⟩
              · skip
                refine (HSx.out _).mono ?_; rintro e v62 ⟨rfl, rfl⟩
                go_wp2_with fail
                go_ret
                exact ⟨ret_bool (by rw [HRes.out, decide_eq_true (show 0 ≤ wx by omega), decide_eq_false (show ¬ wy = wx by omega), decide_eq_false (show ¬ 0 ≤ wy by omega)]; try rfl), HB0.out⟩
    · skip
      refine (HCx.out _ _ _ HUi.out).mono ?_; rintro e v63 ⟨rfl, rfl⟩
      go_wp2_with fail
      go_ret
      exact ⟨ret_bool (by rw [HRes.out, decide_eq_true (show 0 ≤ wx by omega)]; try rfl), HB0.out⟩
  · skip
    by_cases hD : 0 ≤ wy
    · skip
      go_wp2_with fail
      refine (HUx.out _).mono ?_; rintro e v64 ⟨⟨ua, uc, rfl, hui⟩, hb⟩; have HUi := Lib.hid hui; clear hui
      have c0 := keep c0 hb
      have c1' := keep c1' hb
      have c2' := keep c2' hb
      have c3 := keep c3 hb
      have c4 := keep c4 hb
      have c5 := keep c5 hb
      have d0 := keep d0 hb
      have d1 := keep d1 hb
      have d2 := keep d2 hb
      have d3 := keep d3 hb
      have d4 := keep d4 hb
      have d5 := keep d5 hb
      have HB0 := Lib.hid (HB0.out.trans (hb.mono HB0.out.size))
      clear hb
      go_wp2_with fail
      cases c2
      · skip
        refine (HCy.out _ _ _ HUi.out).mono ?_; rintro e v65 ⟨rfl, rfl⟩
        cases mx
        · skip
          go_wp2_with fail
          refine (HMx.out _).mono ?_; rintro e v66 ⟨rfl, rfl⟩
          go_wp2_with fail
          go_ret
          exact ⟨ret_bool (by rw [HRes.out, decide_eq_false (show ¬ 0 ≤ wx by omega), decide_eq_true (show 0 ≤ wy by omega)]; try rfl), HB0.out⟩
        · skip
          go_wp2_with fail
          refine (HMx.out _).mono ?_; rintro e v67 ⟨rfl, rfl⟩
          go_wp2_with fail
          cases my
          · skip
            refine (HMy.out _).mono ?_; rintro e v68 ⟨rfl, rfl⟩
            go_wp2_with fail
            go_ret
            exact ⟨ret_bool (by rw [HRes.out, decide_eq_false (show ¬ 0 ≤ wx by omega), decide_eq_true (show 0 ≤ wy by omega)]; try rfl), HB0.out⟩
          · skip
            refine (HMy.out _).mono ?_; rintro e v69 ⟨rfl, rfl⟩
            go_wp2_with fail
            cases sx
            · skip
              refine (HSx.out _).mono ?_; rintro e v70 ⟨rfl, rfl⟩
              go_wp2_with fail
              cases sy
              · skip
                refine (HSy.out _).mono ?_; rintro e v71 ⟨rfl, rfl⟩
                go_wp2_with fail
                go_ret
                exact ⟨ret_bool (by rw [HRes.out, decide_eq_false (show ¬ 0 ≤ wx by omega), decide_eq_true (show 0 ≤ wy by omega)]; try rfl), HB0.out⟩
              · skip
                refine (HSy.out _).mono ?_; rintro e v72 ⟨rfl, rfl⟩
                go_wp2_with fail
                go_ret
                exact ⟨ret_bool (by rw [HRes.out, decide_eq_false (show ¬ 0 ≤ wx by omega), decide_eq_true (show 0 ≤ wy by omega)]; try rfl), HB0.out⟩
            · skip
              refine (HSx.out _).mono ?_; rintro e v73 ⟨rfl, rfl⟩
              go_wp2_with fail
              go_ret
              exact ⟨ret_bool (by rw [HRes.out, decide_eq_false (show ¬ 0 ≤ wx by omega), decide_eq_true (show 0 ≤ wy by omega)]; try rfl), HB0.out⟩
      · skip
        refine (HCy.out _ _ _ HUi.out).mono ?_; rintro e v74 ⟨rfl, rfl⟩
        go_wp2_with fail
        go_ret
        exact ⟨ret_bool (by rw [HRes.out, decide_eq_false (show ¬ 0 ≤ wx by omega), decide_eq_true (show 0 ≤ wy by omega)]; try rfl), HB0.out⟩
    · skip
      cases mx
      · skip
        go_wp2_with fail
        refine (HMx.out _).mono ?_; rintro e v75 ⟨rfl, rfl⟩
        go_wp2_with fail
        go_ret
        exact ⟨ret_bool (by rw [HRes.out, decide_eq_false (show ¬ 0 ≤ wx by omega), decide_eq_false (show ¬ 0 ≤ wy by omega)]; try rfl), HB0.out⟩
      · skip
        go_wp2_with fail
        refine (HMx.out _).mono ?_; rintro e v76 ⟨rfl, rfl⟩
        go_wp2_with fail
        cases my
        · skip
          refine (HMy.out _).mono ?_; rintro e v77 ⟨rfl, rfl⟩
          go_wp2_with fail
          go_ret
          exact ⟨ret_bool (by rw [HRes.out, decide_eq_false (show ¬ 0 ≤ wx by omega), decide_eq_false (show ¬ 0 ≤ wy by omega)]; try rfl), HB0.out⟩
        · skip
          refine (HMy.out _).mono ?_; rintro e v78 ⟨rfl, rfl⟩
          go_wp2_with fail
          cases sx
          · skip
            refine (HSx.out _).mono ?_; rintro e v79 ⟨rfl, rfl⟩
            go_wp2_with fail
            cases sy
            · skip
              refine (HSy.out _).mono ?_; rintro e v80 ⟨rfl, rfl⟩
              go_wp2_with fail
              go_ret
              exact ⟨ret_bool (by rw [HRes.out, decide_eq_false (show ¬ 0 ≤ wx by omega), decide_eq_false (show ¬ 0 ≤ wy by omega)]; try rfl), HB0.out⟩
            · skip
              refine (HSy.out _).mono ?_; rintro e v81 ⟨rfl, rfl⟩
              go_wp2_with fail
              go_ret
              exact ⟨ret_bool (by rw [HRes.out, decide_eq_false (show ¬ 0 ≤ wx by omega), decide_eq_false (show ¬ 0 ≤ wy by omega)]; try rfl), HB0.out⟩
          · skip
            refine (HSx.out _).mono ?_; rintro e v82 ⟨rfl, rfl⟩
            go_wp2_with fail
            go_ret
            exact ⟨ret_bool (by rw [HRes.out, decide_eq_false (show ¬ 0 ≤ wx by omega), decide_eq_false (show ¬ 0 ≤ wy by omega)]; try rfl), HB0.out⟩
theorem rDepends_any (x y : Cd) (hx : okC x = true) (hy : okC y = true) (w : World) : Calls Try.prog 70 #[(.agg #[.int .i64 x.op, .int .i64 x.d, .int .i64 x.a, .int .i64 x.b, .int .u32 x.im, .int .i64 x.to]), (.agg #[.int .i64 y.op, .int .i64 y.d, .int .i64 y.a, .int .i64 y.b, .int .u32 y.im, .int .i64 y.to])] w fun e w' => e = .returned (.bool (depB x y)) ∧ Below w.heap.size w w' := by
  rw [← depR_eq hx hy]; exact rDepends_any0 x y w
end Go.Proofs.Ytccpjfppkahbmaa
