/- The walk of time.Validate. -/
import Derived.Test.YtccpjfppkahbmaaKC
namespace Go.Proofs.Ytccpjfppkahbmaa
open Go.RowKit PK

/-- An instruction may be in a stretch. -/
def okC (x : Cd) : Bool := decide (0 ≤ x.op) && (decide (x.op ≤ 23) && isCodeB x 200 1)
/-- The first error of a stretch. -/
def tErr (l : List Cd) : Int := if 40 < l.length then 3 else if l.all okC then 0 else 1
def outOp (x : Cd) : Bool := decide (x.op < 0) || decide (23 < x.op)
def haltC : Cd := ⟨26, 0, 0, 0, 0, 0⟩
theorem tErr_big {l : List Cd} (h : 40 < l.length) : tErr l = 3 := if_pos h
theorem tErr_out {l : List Cd} (h : ¬ 40 < l.length) (ho : l.any outOp = true) : tErr l = 1 := by
  unfold tErr
  rw [if_neg h, if_neg]
  intro ha
  rw [List.all_eq_true] at ha
  obtain ⟨x, hx, hox⟩ := List.any_eq_true.1 ho
  have := ha x hx
  unfold okC at this
  unfold outOp at hox
  simp only [Bool.and_eq_true, Bool.or_eq_true, decide_eq_true_eq] at this hox
  omega
theorem fT_low {op : Int} (h0 : 0 ≤ op) (h : op ≤ 23) : fT op = false := by
  unfold fT
  rw [decide_eq_false_iff_not]; omega
theorem isLast_low {op : Int} (h0 : 0 ≤ op) (h : op ≤ 23) : isLastB op = false := by
  unfold isLastB
  rw [decide_eq_false_iff_not]; omega
theorem tErr_in {l : List Cd} (h : ¬ 40 < l.length) (ho : l.any outOp = false) : (progErr 200 [l ++ [haltC]] = 0 → tErr l = 0) ∧ (progErr 200 [l ++ [haltC]] ≠ 0 → tErr l = 1) := by
  have hop : ∀ x ∈ l, 0 ≤ x.op ∧ x.op ≤ 23 := fun x hx => by
    rw [List.any_eq_false] at ho
    have := ho x hx
    unfold outOp at this
    simp only [Bool.or_eq_true, decide_eq_true_eq, not_or] at this
    omega
  have hbig : ¬ tooBig 200 [l ++ [haltC]] := by
    unfold tooBig
    simp only [sumL, List.length_append, List.length_cons, List.length_nil]
    omega
  have hbad : badL (l ++ [haltC]) = false := by
    refine badL_false (by simp) fun i hi => ?_
    by_cases hil : i < l.length
    · rw [atC_app hil]
      obtain ⟨h0, h1⟩ := hop _ (atC_mem hil)
      rw [isLast_low h0 h1]
      symm; rw [decide_eq_false_iff_not]
      simp only [List.length_append, List.length_cons, List.length_nil]; omega
    · have : i = l.length := by simp only [List.length_append, List.length_cons, List.length_nil] at hi; omega
      subst this
      have e : atC (l ++ [haltC]) l.length = haltC := by
        unfold atC
        rw [List.getD_eq_getElem?_getD, List.getElem?_append_right (Nat.le_refl _)]; simp
      rw [e]
      symm
      show decide _ = true
      simp only [List.length_append, List.length_cons, List.length_nil, decide_eq_true_eq]; omega
  have hany : ((l ++ [haltC]).any fun x => !isCodeB x 200 1) = !l.all okC := by
    rw [List.any_append, show ([haltC].any fun x => !isCodeB x 200 1) = false by decide, Bool.or_false]
    rw [← List.not_all_eq_any_not]
    congr 1
    have hok : ∀ x ∈ l, okC x = isCodeB x 200 1 := fun x hx => by
      obtain ⟨h0, h1⟩ := hop x hx
      unfold okC
      simp [h0, h1]
    rw [Bool.eq_iff_iff, List.all_eq_true, List.all_eq_true]
    exact ⟨fun h x hx => (hok x hx).trans (h x hx), fun h x hx => (hok x hx).symm.trans (h x hx)⟩
  have he : progErr 200 [l ++ [haltC]] = if (!l.all okC) = true then 1 else 0 := by
    unfold progErr
    rw [if_neg hbig]
    simp only [List.any_cons, List.any_nil, Bool.or_false, List.length_cons, List.length_nil, hbad]
    rw [show (((0 + 1 : Nat) : Int)) = 1 by rfl, hany]
    simp
  rw [he]
  unfold tErr
  rw [if_neg h]
  cases l.all okC <;> simp
set_option maxHeartbeats 1000000 in
theorem outOp_any (x : Cd) (w : World) : Calls Try.prog 46 #[(.agg #[.int .i64 x.op, .int .i64 x.d, .int .i64 x.a, .int .i64 x.b, .int .u32 x.im, .int .i64 x.to])] w fun e w' => e = .returned (.bool (outOp x)) ∧ Below w.heap.size w w' := by
  have HX := Lib.hid (cdAt_new w x 42)
  have HB0 := Lib.hid ((Below.refl w.heap.size w).alloc (Nat.le_refl _) (.cells #[.int .i64 x.op, .int .i64 x.d, .int .i64 x.a, .int .i64 x.b, .int .u32 x.im, .int .i64 x.to] 42))
  obtain ⟨x0, x1, x2, x3, x4, x5⟩ := x
  have HX : Hid (CdAt (w.alloc (.cells #[.int .i64 x0, .int .i64 x1, .int .i64 x2, .int .i64 x3, .int .u32 x4, .int .i64 x5] 42)) w.heap.size 0 ⟨x0, x1, x2, x3, x4, x5⟩) := HX
  have HB0 : Hid (Below w.heap.size w (w.alloc (.cells #[.int .i64 x0, .int .i64 x1, .int .i64 x2, .int .i64 x3, .int .u32 x4, .int .i64 x5] 42))) := HB0
  show Calls _ _ _ _ fun e w' => e = .returned (.bool (decide (x0 < 0) || decide (23 < x0))) ∧ _
  go_enter Try.func46, Try.ntmps46
  go_upto_region 1 with (fail)
  generalize w.alloc (.cells #[.int .i64 x0, .int .i64 x1, .int .i64 x2, .int .i64 x3, .int .u32 x4, .int .i64 x5] 42) = w0 at *
  generalize hq : w.heap.size = q at HX
  have c0 := HX.out.c0
  simp only at c0
  subst hq
  by_cases h0 : x0 < 0
  · go_wp2_with fail
    go_ret
    exact ⟨ret_bool (by simp [h0]), HB0.out⟩
  · by_cases h1 : 23 < x0
    · go_wp2_with fail
      go_ret
      exact ⟨ret_bool (by simp), HB0.out⟩
    · go_wp2_with fail
      go_ret
      exact ⟨ret_bool (by simp [h0]; omega), HB0.out⟩
set_option maxRecDepth 100000 in
set_option maxHeartbeats 2000000 in
theorem tValidate_any (l : List Cd) (a : Option Addr) (cap : Nat) (w : World) (hin : CdsIn w a l) (hl : l.length ≤ 1099511627776) :
    Calls Try.prog 18 #[.slice a l.length cap] w fun e w' => e = .returned (.int .i64 (tErr l)) ∧ Below w.heap.size w w' := by
  have HI := Lib.hid hin
  clear hin
  by_cases hb : 40 < l.length
  · have HE := Lib.hid (tErr_big hb)
    go_enter Try.func18, Try.ntmps18
    go_wp2_with fail
    go_ret
    exact ⟨ret_int HE.out.symm, Below.refl _ _⟩
  have HOut := Lib.hid (tErr_out hb)
  have HIn := Lib.hid (tErr_in hb)
  obtain ⟨M, hM, hmk⟩ := make_codes l.length (by omega)
  have HMk := Lib.hid hmk; clear hmk
  have HM := Lib.hid hM; clear hM
  go_enter Try.func18, Try.ntmps18
  go_upto_region 3 with (fail)
  have hmk := HMk.out w
  have hg0 : (w.alloc (.cells M 42)).heap[w.heap.size]? = some (.cells M 42 (0, 0)) := heap_alloc_new w _
  have HB0 := Lib.hid ((Below.refl w.heap.size w).alloc (Nat.le_refl _) (.cells M 42))
  have HI0 := Lib.hid (HI.out.below HB0.out)
  have HG0 := Lib.hid hg0; clear hg0
  have HM6 : Hid (l.length * 6 ≤ M.size) := Lib.hid (by rw [HM.out]; omega)
  go_wp2_with (refine wpList_copy_codes rfl _ _ rfl _ w.heap.size (l.length + 1) cap l a M rfl rfl HG0.out HM6.out HI0.out ?_; intro w1 HG1 HB1)
  have HBw1 := Lib.hid (HB1.out _ _ HB0.out (Nat.le_refl _))
  have ho1 : w1.ownsRow w.heap.size 42 6 (.slice (some ⟨w.heap.size, 0, none⟩) l.length (l.length + 1)) l.length (encC l) := owns_made (Nat.le_refl _) HG1.out rfl (Nat.le_succ _) (by omega) (by have hm := HM.out; simp only [List.length_drop]; rw [show M.toList.length = M.size from rfl, hm]; omega)
  have HO1 := Lib.hid ho1; clear ho1
  have HC1 : Hid (CdsIn w1 (some ⟨w.heap.size, 0, none⟩) l) := Lib.hid (by
    obtain ⟨ca, cc, e, _, h⟩ := cds_of_owns HO1.out
    simp only [Value.slice.injEq, true_and] at e
    obtain ⟨rfl, _⟩ := e
    exact h)
  have HCo := Lib.hid (conC_any 46 #[] (fun _ _ => rfl) outOp l (some ⟨w.heap.size, 0, none⟩) (l.length + 1) w1 HC1.out (by omega) (fun k W _ _ => outOp_any (atC l k) W))
  clear HI HI0 HG0 HM6 HMk hmk HG1 HB1 HM
  by_cases hany : l.any outOp = true
  · have HE := Lib.hid (HOut.out hany)
    rw [hany] at HCo; clear hany
    refine HCo.out.mono ?_; rintro e w2 ⟨rfl, hb2⟩
    have HB2 := Lib.hid (HBw1.out.trans (hb2.mono HBw1.out.size))
    clear hb2
    go_wp2_with fail
    go_ret
    exact ⟨ret_int HE.out.symm, HB2.out⟩
  · have hany := Bool.eq_false_iff.2 hany
    have HE := Lib.hid (HIn.out hany)
    rw [hany] at HCo; clear hany
    refine HCo.out.mono ?_; rintro e w2 ⟨rfl, hb2⟩
    have HB2 := Lib.hid (HBw1.out.trans (hb2.mono HBw1.out.size))
    have HO2 := Lib.hid (owns_below HO1.out hb2)
    clear hb2
    have HB3 := Lib.hid (HB2.out.alloc HB2.out.size (.cells #[.int .i64 26, .int .i64 0, .int .i64 0, .int .i64 0, .int .u32 0, .int .i64 0] 42))
    have HO3 := Lib.hid (HO2.out.alloc (.cells #[.int .i64 26, .int .i64 0, .int .i64 0, .int .i64 0, .int .u32 0, .int .i64 0] 42))
    have HN3 := Lib.hid (cell_six_at w2 (.int .i64 26) (.int .i64 0) (.int .i64 0) (.int .i64 0) (.int .u32 0) (.int .i64 0) 42)
    have HZ3 := Lib.hid HB3.out.size
    have HS63 : Hid (l.length + 1 ≤ maxLen) := Lib.hid (by unfold maxLen; omega)
    have HSb : Hid ((l.length + 1) * 48 ≤ 140737488355328) := Lib.hid (by omega)
    obtain ⟨i0, hi, ip0, ip1, ip2⟩ := info_parts Try.infoCode
    go_wp2_with (at_builtin; refine wpList_append_own_at _ rfl _ _ 22 rfl w.heap.size 42 i0 _ 6 48 Try.underCodes hi ip0 ip1 ip2 rfl (by decide) _ _ _ rfl HO3.out ⟨w2.heap.size, 0, none⟩ 1 1 [.int .i64 26, .int .i64 0, .int .i64 0, .int .i64 0, .int .u32 0, .int .i64 0] rfl rfl HN3.out (one_six _ _ _ _ 0 _) HS63.out HSb.out HZ3.out ?_; intro v9 w9 hown9 hgrow9 _ hat9; have HB9 := Lib.hid (HB3.out.grown hgrow9 HZ3.out (fun g hg => (owns_block HO3.out hg).1)); have ho9 : w9.ownsRow w.heap.size 42 6 v9 (l ++ [haltC]).length (encC (l ++ [haltC])) := (by rw [List.length_append, encC_snoc]; exact hown9); clear hown9 hgrow9 hat9; obtain ⟨va, vc, rfl, hvc, hcd⟩ := cds_of_owns ho9; clear ho9 hvc; have HD9 := Lib.hid hcd; clear hcd)
    have hblk := blk_one w9 va vc (l ++ [haltC]) 22 HD9.out
    rw [show (l ++ [haltC]).length = l.length + 1 by simp] at hblk
    have HVd := Lib.hid (Validate_any 200 [l ++ [haltC]] (some ⟨w9.heap.size, 0, none⟩) 1 _ hblk (by simp) (fun k hk => by
      have hk0 : k = 0 := by simp at hk; exact hk
      subst hk0
      show (l ++ [haltC]).length ≤ _
      rw [List.length_append]; simp; omega))
    clear hblk
    have HB10 := Lib.hid (HB9.out.alloc HB9.out.size (.cells #[.slice va (l.length + 1) vc] 22))
    have HT : Hid (∀ v, progErr 200 [l ++ [haltC]] = v → (v = 0 → tErr l = 0) ∧ (v ≠ 0 → tErr l = 1)) := Lib.hid fun v h => h ▸ HE.out
    clear HE
    generalize hpe : progErr 200 [l ++ [haltC]] = pe at *
    have HT1 := Lib.hid (HT.out pe rfl)
    clear hpe HT
    refine HVd.out.mono ?_; rintro e w11 ⟨rfl, hb11⟩
    have HB11 := Lib.hid (HB10.out.trans (hb11.mono HB10.out.size))
    clear hb11
    by_cases hz : pe = 0
    · have HE := Lib.hid (HT1.out.1 hz)
      go_wp2_with fail
      go_ret
      exact ⟨ret_int HE.out.symm, HB11.out⟩
    · have HE := Lib.hid (HT1.out.2 hz)
      go_wp2_with fail
      go_ret
      exact ⟨ret_int HE.out.symm, HB11.out⟩
end Go.Proofs.Ytccpjfppkahbmaa
