/- The walks of time.uses and of Defines at a right instruction. -/
import Derived.Test.YtccpjfppkahbmaaT4
namespace Go.Proofs.Ytccpjfppkahbmaa
open Go.RowKit PK

theorem okC_parts {x : Cd} (h : okC x = true) : 0 ≤ x.op ∧ x.op ≤ 23 ∧ isCodeB x 200 1 = true := by
  unfold okC at h
  simp only [Bool.and_eq_true, decide_eq_true_eq] at h
  exact ⟨h.1, h.2.1, h.2.2⟩
theorem okC_code {x : Cd} (h : okC x = true) : isCodeB x 200 400 = true := by
  obtain ⟨h0, h1, h2⟩ := okC_parts h
  unfold isCodeB at h2 ⊢
  simp only [fT_low h0 h1, wi, Bool.false_eq_true, if_false] at h2 ⊢
  exact h2
theorem okC_d {x : Cd} (h : okC x = true) : 0 ≤ x.d ∧ x.d < 200 := by
  obtain ⟨h0, h1, h2⟩ := okC_parts h
  unfold isCodeB wi at h2
  simp only [Bool.and_eq_true] at h2
  have := h2.2.1
  split at this <;> simp at this <;> omega
theorem okC_a {x : Cd} (h : okC x = true) : x.a < 200 := by
  obtain ⟨h0, h1, h2⟩ := okC_parts h
  unfold isCodeB wi at h2
  simp only [Bool.and_eq_true] at h2
  have := h2.2.2.1
  split at this <;> simp at this <;> omega
theorem okC_b {x : Cd} (h : okC x = true) : 0 ≤ x.b ∧ x.b < 200 := by
  obtain ⟨h0, h1, h2⟩ := okC_parts h
  unfold isCodeB wi at h2
  simp only [Bool.and_eq_true] at h2
  have := h2.2.2.2.1
  split at this <;> simp at this <;> omega
theorem usesL_reg {x : Cd} (h : okC x = true) : ∀ r ∈ usesL x, 0 ≤ r ∧ r < 200 := by
  intro r hr
  have ha := okC_a h; have hb := okC_b h
  unfold usesL at hr
  by_cases hc : (fA x.op && decide (0 ≤ x.a)) = true
  · have h0 : 0 ≤ x.a := by simp at hc; exact hc.2
    rw [if_pos hc] at hr
    repeat' split at hr
    all_goals (simp at hr; omega)
  · rw [if_neg hc] at hr
    split at hr
    · simp at hr; omega
    · cases hr
theorem Uses_ok {x : Cd} (h : okC x = true) (w : World) : Calls Try.prog 96 #[(.agg #[.int .i64 x.op, .int .i64 x.d, .int .i64 x.a, .int .i64 x.b, .int .u32 x.im, .int .i64 x.to])] w fun e w' => (∃ a cap, e = .returned (.tuple #[.slice a (usesL x).length cap, .int .i64 0]) ∧ IntsIn w' a (usesL x)) ∧ Below w.heap.size w w' := by
  refine (Uses_any x (okC_code h) w).mono ?_
  rintro e w' ⟨⟨v, rfl, hp⟩, hb⟩
  obtain ⟨a, cap, rfl, _, hin⟩ := ints_of_owns hp
  exact ⟨⟨a, cap, rfl, hin⟩, hb⟩
set_option maxHeartbeats 1000000 in
theorem uses_ok {x : Cd} (h : okC x = true) (w : World) : Calls Try.prog 61 #[(.agg #[.int .i64 x.op, .int .i64 x.d, .int .i64 x.a, .int .i64 x.b, .int .u32 x.im, .int .i64 x.to])] w (RdPost (usesL x) w) := by
  have HB0 := Lib.hid ((Below.refl w.heap.size w).alloc (Nat.le_refl _) (.cells #[.int .i64 x.op, .int .i64 x.d, .int .i64 x.a, .int .i64 x.b, .int .u32 x.im, .int .i64 x.to] 42))
  have HX := Lib.hid (cdAt_new w x 42)
  have HU := Lib.hid (Uses_ok h)
  clear h
  generalize usesL x = L at *
  obtain ⟨x0, x1, x2, x3, x4, x5⟩ := x
  have HX : Hid (CdAt (w.alloc (.cells #[.int .i64 x0, .int .i64 x1, .int .i64 x2, .int .i64 x3, .int .u32 x4, .int .i64 x5] 42)) w.heap.size 0 ⟨x0, x1, x2, x3, x4, x5⟩) := HX
  have HB0 : Hid (Below w.heap.size w (w.alloc (.cells #[.int .i64 x0, .int .i64 x1, .int .i64 x2, .int .i64 x3, .int .u32 x4, .int .i64 x5] 42))) := HB0
  have HU : Hid (∀ w : World, Calls Try.prog 96 #[.agg #[.int .i64 x0, .int .i64 x1, .int .i64 x2, .int .i64 x3, .int .u32 x4, .int .i64 x5]] w fun e w' => (∃ a cap, e = .returned (.tuple #[.slice a L.length cap, .int .i64 0]) ∧ IntsIn w' a L) ∧ Below w.heap.size w w') := HU
  go_enter Try.func61, Try.ntmps61
  go_upto_region 1 with (fail)
  generalize w.alloc (.cells #[.int .i64 x0, .int .i64 x1, .int .i64 x2, .int .i64 x3, .int .u32 x4, .int .i64 x5] 42) = w0 at *
  generalize hq : w.heap.size = q at HX
  obtain ⟨c0, c1, c2, c3, c4, c5⟩ := HX.out
  simp only at c0 c1 c2 c3 c4 c5
  subst hq
  go_wp2_with fail
  refine (HU.out _).mono ?_; rintro e w2 ⟨⟨a, cap, rfl, hin⟩, hb2⟩
  have HI := Lib.hid hin
  have HB := Lib.hid (HB0.out.trans (hb2.mono HB0.out.size))
  clear hin hb2
  go_wp2_with fail
  go_ret
  exact ⟨⟨a, cap, rfl, HI.out⟩, HB.out⟩
theorem Defines_ok {x : Cd} (h : okC x = true) {b : Bool} (hd : fD x.op = b) (w : World) : Calls Try.prog 62 #[(.agg #[.int .i64 x.op, .int .i64 x.d, .int .i64 x.a, .int .i64 x.b, .int .u32 x.im, .int .i64 x.to])] w fun e w' => e = .returned (.tuple #[.int .i64 x.d, .bool b, .int .i64 0]) ∧ Below w.heap.size w w' := by
  rw [← hd]; exact Defines_any x (okC_code h) w
theorem foldT_take (f : Int → Option Int) (rs : List Int) (t : Int) {m : Nat} (h : m < rs.length) : foldT f (rs.take (m + 1)) t = max (foldT f (rs.take m) t) ((f (rs.getD m 0)).getD 0) := by
  unfold foldT
  rw [List.take_succ_eq_append_getElem h, List.foldl_append, List.getD_eq_getElem?_getD, List.getElem?_eq_getElem h]
  rfl
theorem foldT_small {f : Int → Option Int} {m : Int} (hf : ∀ r, (f r).getD 0 ≤ m) {rs : List Int} {t : Int} (h0 : 0 ≤ t) (ht : t ≤ m) : 0 ≤ foldT f rs t ∧ foldT f rs t ≤ m :=
  ⟨Int.le_trans h0 (foldT_ge _ _ _), foldT_le hf _ _ ht⟩
theorem rdyF_small (l : List Cd) (i : Nat) (r : Int) : 0 ≤ (rdyF l (issN l i) i r).getD 0 ∧ (rdyF l (issN l i) i r).getD 0 ≤ 13 * (i : Int) := by
  unfold rdyF
  cases hl : lastW l r i with
  | none => simp; omega
  | some k =>
    have hk := lastW_lt hl
    have := issN_small l i k hk
    have := lat_small (atC l k).op
    simp only [Option.map_some, Option.getD_some]
    omega
theorem startT_small (l : List Cd) (i : Nat) : 0 ≤ startT (issN l i) i ∧ startT (issN l i) i ≤ 13 * (i : Int) := by
  unfold startT
  by_cases h0 : i = 0
  · subst h0; simp
  · rw [if_neg h0]
    have := issN_small l i (i - 1) (by omega)
    omega
end Go.Proofs.Ytccpjfppkahbmaa
