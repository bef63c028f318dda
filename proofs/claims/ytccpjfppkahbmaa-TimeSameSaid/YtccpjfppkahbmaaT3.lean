/- The walks of the specification's Validate, writes and reads; of latency and Latency on both sides. -/
import Derived.Test.YtccpjfppkahbmaaT2
namespace Go.Proofs.Ytccpjfppkahbmaa
open Go.RowKit PK

theorem rightR_ok (x : Cd) : rightR x = okC x := by
  obtain ⟨p, d, a, b, i, t⟩ := x
  unfold rightR okC isCodeB wi lowA fO fD fA fB fI fT fM regB
  simp only
  by_cases ho : 0 ≤ p ∧ p ≤ 23
  · obtain ⟨h0, h1⟩ := ho
    have hp : p = 0 ∨ p = 1 ∨ p = 2 ∨ p = 3 ∨ p = 4 ∨ p = 5 ∨ p = 6 ∨ p = 7 ∨ p = 8 ∨ p = 9 ∨ p = 10 ∨ p = 11 ∨ p = 12 ∨ p = 13 ∨ p = 14 ∨ p = 15 ∨ p = 16 ∨ p = 17 ∨ p = 18 ∨ p = 19 ∨ p = 20 ∨ p = 21 ∨ p = 22 ∨ p = 23 := by omega
    rcases hp with rfl | rfl | rfl | rfl | rfl | rfl | rfl | rfl | rfl | rfl | rfl | rfl | rfl | rfl | rfl | rfl | rfl | rfl | rfl | rfl | rfl | rfl | rfl | rfl <;>
      (rw [Bool.eq_iff_iff]; by_cases ht : t = 0 <;> simp [ht] <;> omega)
  · have e1 : (decide (0 ≤ p) && decide (p ≤ 23)) = false := by simp; omega
    rw [show ∀ X : Bool, (decide (0 ≤ p) && (decide (p ≤ 23) && X)) = ((decide (0 ≤ p) && decide (p ≤ 23)) && X) from fun X => by rw [Bool.and_assoc], e1, Bool.false_and]
    repeat' split
    all_goals first | rfl | omega
/-- The register that an instruction writes; -1 if none. -/
def wrR (x : Cd) : Int := if 0 ≤ x.op ∧ x.op ≤ 20 then x.d else -1
set_option maxHeartbeats 2000000 in
theorem writes_any (x : Cd) (w : World) : Calls Try.prog 64 #[(.agg #[.int .i64 x.op, .int .i64 x.d, .int .i64 x.a, .int .i64 x.b, .int .u32 x.im, .int .i64 x.to])] w fun e w' => e = .returned (.int .i64 (wrR x)) ∧ Below w.heap.size w w' := by
  have HB0 := Lib.hid ((Below.refl w.heap.size w).alloc (Nat.le_refl _) (.cells #[.int .i64 x.op, .int .i64 x.d, .int .i64 x.a, .int .i64 x.b, .int .u32 x.im, .int .i64 x.to] 42))
  have HX := Lib.hid (cdAt_new w x 42)
  generalize hres : wrR x = RES
  have HRes : Hid (RES = wrR x) := Lib.hid hres.symm
  unfold wrR at HRes
  clear hres
  obtain ⟨x0, x1, x2, x3, x4, x5⟩ := x
  simp only at HRes
  have HX : Hid (CdAt (w.alloc (.cells #[.int .i64 x0, .int .i64 x1, .int .i64 x2, .int .i64 x3, .int .u32 x4, .int .i64 x5] 42)) w.heap.size 0 ⟨x0, x1, x2, x3, x4, x5⟩) := HX
  have HB0 : Hid (Below w.heap.size w (w.alloc (.cells #[.int .i64 x0, .int .i64 x1, .int .i64 x2, .int .i64 x3, .int .u32 x4, .int .i64 x5] 42))) := HB0
  go_enter Try.func64, Try.ntmps64
  go_upto_region 1 with (fail)
  generalize w.alloc (.cells #[.int .i64 x0, .int .i64 x1, .int .i64 x2, .int .i64 x3, .int .u32 x4, .int .i64 x5] 42) = w0 at *
  generalize hq : w.heap.size = q at HX
  obtain ⟨c0, c1, c2, c3, c4, c5⟩ := HX.out
  simp only at c0 c1 c2 c3 c4 c5
  subst hq
  by_cases h0 : 0 ≤ x0
  · by_cases h1 : x0 ≤ 20
    · have HR := Lib.hid (HRes.out.trans (if_pos ⟨h0, h1⟩))
      go_wp2_with fail
      go_ret
      exact ⟨ret_int HR.out.symm, HB0.out⟩
    · have HR := Lib.hid (HRes.out.trans (if_neg fun c => h1 c.2))
      go_wp2_with fail
      go_ret
      exact ⟨ret_int HR.out.symm, HB0.out⟩
  · have HR := Lib.hid (HRes.out.trans (if_neg fun c => h0 c.1))
    go_wp2_with fail
    go_ret
    exact ⟨ret_int HR.out.symm, HB0.out⟩
/-- The registers that an instruction reads, as the specification lists them. -/
def rdR (x : Cd) : List Int :=
  if x.op = 1 then [x.a] else if 2 ≤ x.op ∧ x.op ≤ 17 then [x.a, x.b] else if 18 ≤ x.op ∧ x.op ≤ 20 ∧ 0 ≤ x.a then [x.a]
  else if stB x.op = true ∧ 0 ≤ x.a then [x.a, x.b] else if stB x.op = true then [x.b] else []
def RdPost (l : List Int) (w : World) (e : Ending) (w' : World) : Prop := (∃ a cap, e = .returned (.slice a l.length cap) ∧ IntsIn w' a l) ∧ Below w.heap.size w w'
theorem rd_none {l : List Int} {w w' : World} (h : l = []) (hb : Below w.heap.size w w') : RdPost l w (.returned (.slice none 0 0)) w' := by
  subst h; exact ⟨⟨none, 0, rfl, IntsIn.nil _ _⟩, hb⟩
theorem rd_one {l : List Int} {x : Int} {w w' : World} {t : TypeId} (h : l = [x]) (hb : Below w.heap.size w w') : RdPost l w (.returned (.slice (some ⟨w'.heap.size, 0, none⟩) 1 1)) (w'.alloc (.cells #[.int .i64 x] t)) := by
  subst h
  refine ⟨⟨_, 1, rfl, fun k hk => ?_⟩, hb.alloc hb.size _⟩
  have hk0 : k = 0 := by simp at hk; exact hk
  subst hk0
  exact ⟨w'.heap.size, 0, rfl, by simp [go_sem]⟩
theorem rd_two {l : List Int} {x y : Int} {w w' : World} {t : TypeId} (h : l = [x, y]) (hb : Below w.heap.size w w') : RdPost l w (.returned (.slice (some ⟨w'.heap.size, 0, none⟩) 2 2)) (w'.alloc (.cells #[.int .i64 x, .int .i64 y] t)) := by
  subst h
  refine ⟨⟨_, 2, rfl, fun k hk => ?_⟩, hb.alloc hb.size _⟩
  have hk0 : k = 0 ∨ k = 1 := by simp at hk; omega
  rcases hk0 with rfl | rfl
  · exact ⟨w'.heap.size, 0, rfl, by simp [go_sem]⟩
  · exact ⟨w'.heap.size, 0, rfl, by simp [go_sem]⟩
set_option maxHeartbeats 2000000 in
theorem reads_any (x : Cd) (w : World) : Calls Try.prog 63 #[(.agg #[.int .i64 x.op, .int .i64 x.d, .int .i64 x.a, .int .i64 x.b, .int .u32 x.im, .int .i64 x.to])] w (RdPost (rdR x) w) := by
  have HB0 := Lib.hid ((Below.refl w.heap.size w).alloc (Nat.le_refl _) (.cells #[.int .i64 x.op, .int .i64 x.d, .int .i64 x.a, .int .i64 x.b, .int .u32 x.im, .int .i64 x.to] 42))
  have HX := Lib.hid (cdAt_new w x 42)
  generalize hres : rdR x = RES
  have HRes : Hid (RES = rdR x) := Lib.hid hres.symm
  unfold rdR at HRes
  clear hres
  obtain ⟨x0, x1, x2, x3, x4, x5⟩ := x
  simp only at HRes
  have HX : Hid (CdAt (w.alloc (.cells #[.int .i64 x0, .int .i64 x1, .int .i64 x2, .int .i64 x3, .int .u32 x4, .int .i64 x5] 42)) w.heap.size 0 ⟨x0, x1, x2, x3, x4, x5⟩) := HX
  have HB0 : Hid (Below w.heap.size w (w.alloc (.cells #[.int .i64 x0, .int .i64 x1, .int .i64 x2, .int .i64 x3, .int .u32 x4, .int .i64 x5] 42))) := HB0
  go_enter Try.func63, Try.ntmps63
  go_upto_region 1 with (fail)
  generalize w.alloc (.cells #[.int .i64 x0, .int .i64 x1, .int .i64 x2, .int .i64 x3, .int .u32 x4, .int .i64 x5] 42) = w0 at *
  generalize hq : w.heap.size = q at HX
  obtain ⟨c0, c1, c2, c3, c4, c5⟩ := HX.out
  simp only at c0 c1 c2 c3 c4 c5
  subst hq
  by_cases g1 : x0 = 1
  · subst g1
    have HR : Hid (RES = [x2]) := Lib.hid (by rw [HRes.out]; rfl)
    go_wp2_with fail
    go_ret
    exact rd_one HR.out HB0.out
  by_cases g2 : 2 ≤ x0 ∧ x0 ≤ 17
  · obtain ⟨g2a, g2b⟩ := g2
    have HR : Hid (RES = [x2, x3]) := Lib.hid (by rw [HRes.out]; rw [if_neg g1, if_pos ⟨g2a, g2b⟩])
    go_wp2_with fail
    go_ret
    exact rd_two HR.out HB0.out
  by_cases g3 : 18 ≤ x0 ∧ x0 ≤ 20
  · obtain ⟨g3a, g3b⟩ := g3
    have hst : stB x0 = false := by unfold stB; simp; omega
    have HSt := Lib.hid (store_is hst)
    by_cases h : 0 ≤ x2
    · skip
      have HR : Hid (RES = [x2]) := Lib.hid (by rw [HRes.out]; rw [if_neg g1, if_neg g2, if_pos ⟨g3a, g3b, h⟩])
      go_wp2_with fail
      go_ret
      exact rd_one HR.out HB0.out
    · skip
      have HR : Hid (RES = []) := Lib.hid (by rw [HRes.out]; rw [if_neg g1, if_neg g2, if_neg (fun c => h c.2.2), hst]; rfl)
      go_wp2_with fail
      refine (HSt.out _).mono ?_; rintro e w9 ⟨rfl, rfl⟩
      go_wp2_with fail
      refine (HSt.out _).mono ?_; rintro e w9 ⟨rfl, rfl⟩
      go_wp2_with fail
      go_ret
      exact rd_none HR.out HB0.out
  by_cases g4 : 21 ≤ x0 ∧ x0 ≤ 23
  · obtain ⟨g4a, g4b⟩ := g4
    have hst : stB x0 = true := by unfold stB; simp [g4a, g4b]
    have HSt := Lib.hid (store_is hst)
    have g3' : ¬ (18 ≤ x0 ∧ x0 ≤ 20 ∧ 0 ≤ x2) := by omega
    by_cases h : 0 ≤ x2
    · skip
      have HR : Hid (RES = [x2, x3]) := Lib.hid (by rw [HRes.out]; rw [if_neg g1, if_neg g2, if_neg g3', if_pos ⟨hst, h⟩])
      go_wp2_with fail
      refine (HSt.out _).mono ?_; rintro e w9 ⟨rfl, rfl⟩
      go_wp2_with fail
      go_ret
      exact rd_two HR.out HB0.out
    · skip
      have HR : Hid (RES = [x3]) := Lib.hid (by rw [HRes.out]; rw [if_neg g1, if_neg g2, if_neg g3', if_neg (fun c => h c.2), if_pos hst])
      go_wp2_with fail
      refine (HSt.out _).mono ?_; rintro e w9 ⟨rfl, rfl⟩
      go_wp2_with fail
      refine (HSt.out _).mono ?_; rintro e w9 ⟨rfl, rfl⟩
      go_wp2_with fail
      go_ret
      exact rd_one HR.out HB0.out
  have hst : stB x0 = false := by unfold stB; simp; omega
  have HSt := Lib.hid (store_is hst)
  have g3' : ¬ (18 ≤ x0 ∧ x0 ≤ 20 ∧ 0 ≤ x2) := by omega
  by_cases g5 : x0 < 0
  · skip
    have HR : Hid (RES = []) := Lib.hid (by rw [HRes.out]; rw [if_neg g1, if_neg g2, if_neg g3', hst]; rfl)
    go_wp2_with fail
    refine (HSt.out _).mono ?_; rintro e w9 ⟨rfl, rfl⟩
    go_wp2_with fail
    refine (HSt.out _).mono ?_; rintro e w9 ⟨rfl, rfl⟩
    go_wp2_with fail
    go_ret
    exact rd_none HR.out HB0.out
  by_cases g6 : x0 = 0
  · subst g6
    have HR : Hid (RES = []) := Lib.hid (by rw [HRes.out]; rw [if_neg g1, if_neg g2, if_neg g3', hst]; rfl)
    go_wp2_with fail
    refine (HSt.out _).mono ?_; rintro e w9 ⟨rfl, rfl⟩
    go_wp2_with fail
    refine (HSt.out _).mono ?_; rintro e w9 ⟨rfl, rfl⟩
    go_wp2_with fail
    go_ret
    exact rd_none HR.out HB0.out
  have g7 : 24 ≤ x0 := by omega
  have HR : Hid (RES = []) := Lib.hid (by rw [HRes.out]; rw [if_neg g1, if_neg g2, if_neg g3', hst]; rfl)
  go_wp2_with fail
  refine (HSt.out _).mono ?_; rintro e w9 ⟨rfl, rfl⟩
  go_wp2_with fail
  refine (HSt.out _).mono ?_; rintro e w9 ⟨rfl, rfl⟩
  go_wp2_with fail
  go_ret
  exact rd_none HR.out HB0.out
end Go.Proofs.Ytccpjfppkahbmaa
