/- The walk of time.Bound. -/
import Derived.Test.YtccpjfppkahbmaaG1
import Derived.Deep.OwnRows
import Derived.StillTailTactics
namespace Go.Proofs.Ytccpjfppkahbmaa
open Go.RowKit PK Go.Maps

/-- A block that is a row of n numbers. -/
def NRow (w : World) (q n : Nat) (f : Nat → Int) : Prop := w.heap[q]? = some (.cells (valArr n fun j => .int .i64 (f j)) 3 (0, 0))
def updI (f : Nat → Int) (v : Nat) (x : Int) : Nat → Int := fun j => if j = v then x else f j
theorem updI_upd (f : Nat → Int) (v : Nat) (x : Int) : upd (fun j => .int .i64 (f j)) v (.int .i64 x) = fun j => Value.int .i64 (updI f v x j) := by
  funext j
  unfold upd updI
  split <;> rfl
theorem updI_at (f : Nat → Int) (v : Nat) (x : Int) : updI f v x v = x := if_pos rfl
theorem updI_ne {f : Nat → Int} {v j : Nat} {x : Int} (h : j ≠ v) : updI f v x j = f j := if_neg h
theorem updI_updI (f : Nat → Int) (v : Nat) (x y : Int) : updI (updI f v x) v y = updI f v y := by
  funext j
  unfold updI
  split <;> rfl
theorem updI_same {f : Nat → Int} {v : Nat} {x : Int} (h : f v = x) : updI f v x = f := by
  funext j
  unfold updI
  split
  · rename_i e; rw [e, h]
  · rfl
theorem NRow.cell {w : World} {q n : Nat} {f : Nat → Int} (h : NRow w q n f) {k : Nat} (hk : k < n) : w.cell? ⟨q, k, none⟩ = some (.int .i64 (f k)) := by
  rw [cell_of_row w q k _ _ _ h]; exact valArr_get n _ k hk
theorem NRow.free {w : World} {q n : Nat} {f : Nat → Int} (h : NRow w q n f) (k : Nat) : w.frozen? ⟨q, k, none⟩ = false := frozen_of_row w q k _ _ h
theorem NRow.lt {w : World} {q n : Nat} {f : Nat → Int} (h : NRow w q n f) : q < w.heap.size := lt_of_block h
theorem NRow.set {w : World} {q n : Nat} {f : Nat → Int} (h : NRow w q n f) (v : Nat) (x : Int) : NRow (w.setCell ⟨q, v, none⟩ (.int .i64 x)) q n (updI f v x) := by
  unfold NRow
  rw [heap_setCell_same w q v _ _ _ h, valArr_set, updI_upd]
theorem NRow.below {w w' : World} {q n : Nat} {f : Nat → Int} (h : NRow w q n f) (hb : Below w.heap.size w w') : NRow w' q n f := by
  unfold NRow; rw [hb.block q h.lt]; exact h
theorem NRow.drew {w : World} {q n : Nat} {f : Nat → Int} (h : NRow w q n f) : NRow w.drew q n f := h
theorem NRow.kept {w w' : World} {q n : Nat} {f : Nat → Int} {row : Option Nat} (h : NRow w q n f) (hg : w.grownBy w' row) (hne : some q ≠ row) : NRow w' q n f := by
  unfold NRow; rw [hg.block q h.lt hne]; exact h
theorem nrow_made (w : World) (n : Nat) : NRow (w.alloc (.cells (madeCells #[.int .i64 0] n) 3)) w.heap.size n (fun _ => 0) := by
  unfold NRow
  rw [valArr_made]; exact heap_at _ _ _ rfl
theorem grown_set (w : World) (q k : Nat) (x : Value) : w.grownBy (w.setCell ⟨q, k, none⟩ x) (some q) :=
  ⟨rfl, rfl, rfl, by simp [World.setCell], fun j _ hj => Below.heap_setCell _ _ _ _ (fun e => hj (by rw [e]))⟩
theorem Uses_row {x : Cd} (h : okC x = true) (w : World) : Calls Try.prog 96 #[(.agg #[.int .i64 x.op, .int .i64 x.d, .int .i64 x.a, .int .i64 x.b, .int .u32 x.im, .int .i64 x.to])] w fun e w' => (∃ v, e = .returned (.tuple #[v, .int .i64 0]) ∧ w'.ownsRow w.heap.size 3 1 v (usesL x).length (PK.encI (usesL x))) ∧ Below w.heap.size w w' := by
  refine (Uses_any x (okC_code h) w).mono ?_
  rintro e w' ⟨⟨v, rfl, hp⟩, hb⟩
  exact ⟨⟨v, rfl, hp⟩, hb⟩
set_option maxHeartbeats 1000000 in
theorem uses_own {x : Cd} (h : okC x = true) (w : World) : Calls Try.prog 61 #[(.agg #[.int .i64 x.op, .int .i64 x.d, .int .i64 x.a, .int .i64 x.b, .int .u32 x.im, .int .i64 x.to])] w fun e w' => (∃ v, e = .returned v ∧ w'.ownsRow w.heap.size 3 1 v (usesL x).length (PK.encI (usesL x))) ∧ Below w.heap.size w w' := by
  have HB0 := Lib.hid ((Below.refl w.heap.size w).alloc (Nat.le_refl _) (.cells #[.int .i64 x.op, .int .i64 x.d, .int .i64 x.a, .int .i64 x.b, .int .u32 x.im, .int .i64 x.to] 42))
  have HX := Lib.hid (cdAt_new w x 42)
  have HU := Lib.hid (Uses_row h)
  clear h
  generalize usesL x = L at *
  obtain ⟨x0, x1, x2, x3, x4, x5⟩ := x
  have HX : Hid (CdAt (w.alloc (.cells #[.int .i64 x0, .int .i64 x1, .int .i64 x2, .int .i64 x3, .int .u32 x4, .int .i64 x5] 42)) w.heap.size 0 ⟨x0, x1, x2, x3, x4, x5⟩) := HX
  have HB0 : Hid (Below w.heap.size w (w.alloc (.cells #[.int .i64 x0, .int .i64 x1, .int .i64 x2, .int .i64 x3, .int .u32 x4, .int .i64 x5] 42))) := HB0
  have HU : Hid (∀ w : World, Calls Try.prog 96 #[.agg #[.int .i64 x0, .int .i64 x1, .int .i64 x2, .int .i64 x3, .int .u32 x4, .int .i64 x5]] w fun e w' => (∃ v, e = .returned (.tuple #[v, .int .i64 0]) ∧ w'.ownsRow w.heap.size 3 1 v L.length (PK.encI L)) ∧ Below w.heap.size w w') := HU
  go_enter Try.func61, Try.ntmps61
  go_upto_region 1 with (fail)
  generalize w.alloc (.cells #[.int .i64 x0, .int .i64 x1, .int .i64 x2, .int .i64 x3, .int .u32 x4, .int .i64 x5] 42) = w0 at *
  generalize hq : w.heap.size = q at HX
  obtain ⟨c0, c1, c2, c3, c4, c5⟩ := HX.out
  simp only at c0 c1 c2 c3 c4 c5
  subst hq
  go_wp2_with fail
  refine (HU.out _).mono ?_; rintro e w2 ⟨⟨v, rfl, ho⟩, hb2⟩
  have HO := Lib.hid (owns_base ho HB0.out.size)
  have HB := Lib.hid (HB0.out.trans (hb2.mono HB0.out.size))
  clear ho hb2
  go_wp2_with fail
  go_ret
  exact ⟨⟨v, rfl, HO.out⟩, HB.out⟩
theorem save_drew (q : Nat) (w : World) : Save q w w.drew := ⟨rfl, rfl, rfl, Nat.le_refl _, fun _ _ _ => rfl⟩
theorem Save.gr {q : Nat} {w w' : World} (h : Save q w w') : w.grownBy w' (some q) := ⟨h.os, h.tape, h.output, h.size, fun k hk hne => h.block k hk (fun e => hne (by rw [e]))⟩
/-- Where a register was written last. -/
def wroF (l : List Cd) (k : Nat) (r : Int) : Option Int := (lastW l r k).map fun j : Nat => (j : Int)
theorem wroF_step (l : List Cd) (k : Nat) : wroF l (k + 1) = if fD (atC l k).op = true then putI (wroF l k) (atC l k).d (k : Int) else wroF l k := by
  funext r
  by_cases hd : fD (atC l k).op = true
  · rw [if_pos hd]
    by_cases hr : (atC l k).d = r
    · have e : lastW l r (k + 1) = some k := if_pos ⟨hd, hr⟩
      unfold wroF putI
      rw [e, if_pos hr.symm]; rfl
    · have e : lastW l r (k + 1) = lastW l r k := if_neg fun c => hr c.2
      unfold putI
      rw [if_neg (fun c => hr c.symm)]
      unfold wroF
      rw [e]
  · have e : lastW l r (k + 1) = lastW l r k := if_neg fun c => hd c.1
    rw [if_neg hd]
    unfold wroF
    rw [e]
theorem wroF_lt {l : List Cd} {k : Nat} {r i : Int} (h : wroF l k r = some i) : ∃ j : Nat, i = (j : Int) ∧ j < k := by
  unfold wroF at h
  obtain ⟨j, hj, rfl⟩ := Option.map_eq_some_iff.1 h
  exact ⟨j, rfl, lastW_lt hj⟩
theorem sumF_wro (l : List Cd) (ts : List Int) (k : Nat) (r : Int) : sumF l ts k r = (wroF l k r).map fun i => ts.getD i.toNat 0 := by
  unfold sumF wroF
  cases lastW l r k <;> simp
theorem sum_next (l : List Cd) (k : Nat) : updI (fun j => (sumN l k).getD j 0) k (sumAt l (sumN l k) k) = fun j => (sumN l (k + 1)).getD j 0 := by
  funext j
  by_cases h : j = k
  · subst h; rw [updI_at, sumN_new]
  · rw [updI_ne h]
    by_cases h2 : j < k
    · exact (sumN_old h2).symm
    · show (sumN l k).getD j 0 = (sumN l (k + 1)).getD j 0
      rw [sumN_past (by omega), sumN_past (by omega)]
set_option maxRecDepth 100000 in
set_option maxHeartbeats 8000000 in
theorem Bound_any (l : List Cd) (a : Option Addr) (cap : Nat) (w : World) (hin : CdsIn w a l) (hl : l.length ≤ 1099511627776) :
    Calls Try.prog 33 #[.slice a l.length cap] w (BoundPost l w) := by
  have HI := Lib.hid hin
  have HV := Lib.hid (tValidate_any l a cap w hin hl)
  have HBad := Lib.hid (bound_bad l w)
  have HGood := Lib.hid (bound_good l w)
  clear hin
  by_cases hz : tErr l = 0
  · obtain ⟨h40, hok⟩ := tErr_zero hz
    have HOk := Lib.hid hok
    have HG := Lib.hid (fun w' v hv hb => HGood.out w' v hz hv hb)
    rw [hz] at HV
    clear hz hok HBad HGood hl
    have HMk := Lib.hid (@run_makeMap Try.prog)
    have hmkr := run_make_row' (P := Try.prog) 25 3 (.int .i64 0) 8 Try.underlying25 Try.infoInt rfl .i64 .i64 l.length (by omega) (by omega)
    go_enter Try.func33, Try.ntmps33
    go_wp2_with fail
    refine HV.out.mono ?_; rintro e w2 ⟨rfl, hb2⟩
    have HB0 := Lib.hid hb2
    have hmk := HMk.out
    clear hb2 HV
    go_wp2_with fail
    clear hmk hmkr HMk
    have HM0 : Hid (MapI (w2.alloc (.map #[] 0)) w2.heap.size 0 (wroF l 0)) := Lib.hid (mapI_made w2)
    have HBm := Lib.hid (HB0.out.alloc HB0.out.size (.map #[] 0))
    have hszm : (w2.alloc (.map #[] 0)).heap.size = w2.heap.size + 1 := by simp
    have HBw := Lib.hid HB0.out.size
    generalize w2.alloc (.map #[] 0) = w3 at *
    generalize hbq : w2.heap.size = b at *
    have HN0 : Hid (NRow (w3.alloc (.cells (madeCells #[.int .i64 0] l.length) 3)) w3.heap.size l.length (fun j => (sumN l 0).getD j 0)) := Lib.hid (nrow_made w3 l.length)
    have hal := (Below.refl w3.heap.size w3).alloc (Nat.le_refl _) (.cells (madeCells #[.int .i64 0] l.length) 3)
    have HM1 := Lib.hid (HM0.out.below hal)
    have HB1 := Lib.hid (HBm.out.trans (hal.mono HBm.out.size))
    have hbq2 : b ≠ w3.heap.size := by omega
    have HWq : Hid (w.heap.size ≤ w3.heap.size) := Lib.hid HBm.out.size
    have HSz4 : Hid (w3.heap.size < (w3.alloc (.cells (madeCells #[.int .i64 0] l.length) 3)).heap.size) := Lib.hid (by simp)
    clear hal HM0 HBm HB0
    generalize w3.alloc (.cells (madeCells #[.int .i64 0] l.length) 3) = w4 at *
    rw [hszm] at HWq HSz4 hbq2 HN0
    clear hszm
    generalize b + 1 = q at *
    go_loopw [7, 28] (fun g i wr => ∃ k m : Nat, k ≤ l.length ∧ m ≤ k ∧ i = .int .i64 k ∧ g = .int .i64 (bndN l k) ∧ MapI wr b m (wroF l k) ∧ NRow wr q l.length (fun j => (sumN l k).getD j 0) ∧ Below w.heap.size w wr) (fun _ i _ => l.length - (intOf i).toNat)
    case atStart => exact ⟨0, 0, Nat.zero_le _, Nat.zero_le _, rfl, rfl, HM1.out, HN0.out, HB1.out⟩
    case round =>
      obtain ⟨k, m, hk, hmk, rfl, rfl, hm, hn, hb⟩ := hrel
      by_cases hlt : k < l.length
      · obtain ⟨bb, off, rfl, hc⟩ := HI.out.below hb k hlt
        have hki : (k : Int) < (l.length : Int) := by omega
        have HM := Lib.hid hm; have HN := Lib.hid hn; have HB := Lib.hid hb
        have hokk := HOk.out k hlt
        have HStep := Lib.hid (wroF_step l k)
        have HSm := Lib.hid (sumF_small l k)
        have hti := foldT_small (f := sumF l (sumN l k) k) (m := 12 * (k : Int)) (fun r => (sumF_small l k r).2) (rs := usesL (atC l k)) (t := 0) (Int.le_refl 0) (by omega)
        have HIs : Hid (sumT l (sumN l k) k = foldT (sumF l (sumN l k) k) (usesL (atC l k)) 0) := Lib.hid rfl
        rw [← HIs.out] at hti
        have HNx : Hid (updI (fun j => (sumN l k).getD j 0) k (sumT l (sumN l k) k + lat (atC l k).op) = fun j => (sumN l (k + 1)).getD j 0) := Lib.hid (sum_next l k)
        have HBn : Hid (bndN l (k + 1) = max (bndN l k) (sumT l (sumN l k) k + lat (atC l k).op)) := Lib.hid rfl
        have hbn := bndN_small l k
        have hlx := lat_small (atC l k).op
        have HReg := Lib.hid (usesL_reg hokk)
        have HU := Lib.hid (uses_own hokk)
        have HLx := Lib.hid (tLat_any (atC l k).op)
        have hdd := okC_d hokk
        have HD := Lib.hid (fun b (h : fD (atC l k).op = b) u => Defines_ok hokk h u)
        have hul := usesL_len (atC l k)
        have HFk : Hid ((fun j => (sumN l k).getD j 0) k = 0) := Lib.hid (sumN_past (Nat.le_refl _))
        have HSum := Lib.hid (fun r => sumF_wro l (sumN l k) k r)
        have HWl := Lib.hid (fun r i h => @wroF_lt l k r i h)
        have hsj := sumN_small l k
        have HSj := Lib.hid hsj
        clear hm hn hb hokk hsj
        generalize atC l k = x at *
        generalize usesL x = us at *
        generalize sumT l (sumN l k) k = ti at *
        generalize bndN l k = bn at *
        generalize wroF l k = f at *
        generalize hT1 : sumN l (k + 1) = T1 at *
        have HT1 := Lib.hid hT1; clear hT1
        generalize hT0 : sumN l k = T0 at *
        clear hT0
        obtain ⟨x0, x1, x2, x3, x4, x5⟩ := x
        obtain ⟨c0, c1, c2, c3, c4, c5⟩ := hc
        simp only at c0 c1 c2 c3 c4 c5 hlx hdd HStep HNx HBn
        have HU : Hid (∀ w : World, Calls Try.prog 61 #[.agg #[.int .i64 x0, .int .i64 x1, .int .i64 x2, .int .i64 x3, .int .u32 x4, .int .i64 x5]] w fun e w' => (∃ v, e = .returned v ∧ w'.ownsRow w.heap.size 3 1 v us.length (PK.encI us)) ∧ Below w.heap.size w w') := HU
        have HLx : Hid (∀ w : World, Calls Try.prog 43 #[.int .i64 x0] w (LatPost x0 w)) := HLx
        have HD : Hid (∀ b, fD x0 = b → ∀ u : World, Calls Try.prog 62 #[.agg #[.int .i64 x0, .int .i64 x1, .int .i64 x2, .int .i64 x3, .int .u32 x4, .int .i64 x5]] u fun e w' => e = .returned (.tuple #[.int .i64 x1, .bool b, .int .i64 0]) ∧ Below u.heap.size u w') := HD
        have HX := Lib.hid (cdAt_new wr ⟨x0, x1, x2, x3, x4, x5⟩ 42)
        have HX : Hid (CdAt (wr.alloc (.cells #[.int .i64 x0, .int .i64 x1, .int .i64 x2, .int .i64 x3, .int .u32 x4, .int .i64 x5] 42)) wr.heap.size 0 ⟨x0, x1, x2, x3, x4, x5⟩) := HX
        have hal := (Below.refl wr.heap.size wr).alloc (Nat.le_refl _) (.cells #[.int .i64 x0, .int .i64 x1, .int .i64 x2, .int .i64 x3, .int .u32 x4, .int .i64 x5] 42)
        have HM1 := Lib.hid (HM.out.below hal)
        have HN1 := Lib.hid (HN.out.below hal)
        have HB1 := Lib.hid (HB.out.trans (hal.mono HB.out.size))
        have HQx : Hid (q < wr.heap.size) := Lib.hid HN.out.lt
        have HQ5 : Hid (q < (wr.alloc (.cells #[.int .i64 x0, .int .i64 x1, .int .i64 x2, .int .i64 x3, .int .u32 x4, .int .i64 x5] 42)).heap.size) := Lib.hid HN1.out.lt
        clear hal HM HN HB
        go_upto_region 10 with (fail)
        generalize wr.alloc (.cells #[.int .i64 x0, .int .i64 x1, .int .i64 x2, .int .i64 x3, .int .u32 x4, .int .i64 x5] 42) = w5 at *
        generalize wr.heap.size = qx at *
        obtain ⟨d0, d1, d2, d3, d4, d5⟩ := cell_six_in HX.out
        simp only at d0 d1 d2 d3 d4 d5
        clear c0 c1 c2 c3 c4 c5
        go_wp2_with fail
        refine (HU.out _).mono ?_; rintro e w6 ⟨⟨v, rfl, hu⟩, hb6⟩
        have HO6 := Lib.hid hu
        have HX6 := Lib.hid (HX.out.keep hb6)
        have HM6 := Lib.hid (HM1.out.below hb6)
        have HN6 := Lib.hid (HN1.out.below hb6)
        have HB6 := Lib.hid (HB1.out.trans (hb6.mono HB1.out.size))
        obtain ⟨ua, uc, rfl⟩ := owns_shape hu
        clear hu hb6 HX HM1 HN1 HB1 HU d0 d1 d2 d3 d4 d5
        go_wp2_with fail
        go_loopw [36] (fun i ws => ∃ mm : Nat, mm ≤ us.length ∧ i = .int .i64 mm ∧ NRow ws q l.length (updI (fun j => T0.getD j 0) k (foldT (sumF l T0 k) (us.take mm) 0)) ∧ Save q w6 ws) (fun i _ => us.length - (intOf i).toNat)
        case atStart => exact ⟨0, Nat.zero_le _, rfl, by rw [List.take_zero, updI_same (show (fun j => T0.getD j 0) k = foldT (sumF l T0 k) [] 0 from HFk.out)]; exact HN6.out, Save.refl _ _⟩
        case round =>
          obtain ⟨mm, hmm, rfl, hnr, hsv⟩ := hrel
          by_cases hml : mm < us.length
          · have hmi : (mm : Int) < (us.length : Int) := by omega
            obtain ⟨g, gc, ev, _, _, hBg, _, _, _⟩ := owns_cells HO6.out (by omega)
            simp only [Value.slice.injEq, true_and] at ev
            obtain ⟨rfl, rfl⟩ := ev
            obtain ⟨a0, c0, ev, _, hin6⟩ := ints_of_owns HO6.out
            simp only [Value.slice.injEq, true_and] at ev
            obtain ⟨rfl, rfl⟩ := ev
            obtain ⟨b0, o0, ev, hcu⟩ := hin6 mm hml
            simp only [Option.some.injEq, Addr.mk.injEq, and_true] at ev
            obtain ⟨rfl, rfl⟩ := ev
            have hcu := hsv.cell (by have := HQ5.out; omega) hcu
            rw [Nat.zero_add] at hcu
            obtain ⟨D, hown, hmf⟩ := HM6.out.kept (Save.gr hsv) (by simp only [ne_eq, Option.some.injEq]; exact hbq2)
            have HT := Lib.hid (foldT_take (sumF l T0 k) us 0 hml)
            have hrg := HReg.out (us.getD mm 0) (by rw [List.getD_eq_getElem?_getD, List.getElem?_eq_getElem hml]; exact List.getElem_mem hml)
            have hfs := foldT_small (f := sumF l T0 k) (m := 12 * (k : Int)) (fun r => (HSm.out r).2) (rs := us.take mm) (t := 0) (Int.le_refl 0) (by omega)
            have HV := Lib.hid (hmf.val (us.getD mm 0) 0)
            have HH := Lib.hid (hmf.has (us.getD mm 0))
            have HSr := Lib.hid (HSum.out (us.getD mm 0))
            have HWr := Lib.hid (HWl.out (us.getD mm 0))
            have HOw := Lib.hid hown
            have HNr := Lib.hid hnr; have HSv := Lib.hid hsv
            clear hin6 hown hmf hnr hsv hBg
            generalize us.getD mm 0 = r at *
            generalize hE1 : foldT (sumF l T0 k) (us.take (mm + 1)) 0 = tn at *
            have HE1 := Lib.hid hE1; clear hE1
            generalize foldT (sumF l T0 k) (us.take mm) 0 = tm at *
            cases hw : f r with
            | none =>
              rw [hw] at HV HH HSr
              have HF : Hid (tn = tm) := Lib.hid (by rw [HT.out, HSr.out]; show max tm 0 = tm; omega)
              clear hw HWr
              go_wp2_with (first | (at_lookup; refine wpList_lookup_own_ok_int _ rfl _ _ 80 rfl 3 3 .i64 intLaw Try.underlying80 Try.underlying3 (zeroInt _) b m D rfl HOw.out _ _ rfl (key_int (by omega) (by omega)) ?_; intro c hat hwc; rw [HH.out]; clear hat hwc))
              go_roundw
              case rel => exact ⟨mm + 1, by omega, by go_num, by rw [HE1.out, HF.out]; exact HNr.out, HSv.out⟩
              case measure => simp [intOf]; omega
            | some i =>
              obtain ⟨j, rfl, hjk⟩ := HWr.out _ hw
              rw [hw] at HV HH HSr
              have hij : (k : Int) ≠ (j : Int) := by omega
              have hsj := HSj.out j hjk
              have HF : Hid (tn = max tm (T0.getD j 0)) := Lib.hid (by rw [HT.out, HSr.out]; simp)
              have hck := HNr.out.cell hlt
              rw [updI_at] at hck
              have hcj := HNr.out.cell (show j < l.length by omega)
              rw [updI_ne (by omega)] at hcj
              have hfz := HNr.out.free k
              generalize T0.getD j 0 = sj at *
              have hjl : (j : Int) < (l.length : Int) := by omega
              have hj0 : (0 : Int) ≤ (j : Int) := by omega
              have hk0 : (0 : Int) ≤ (k : Int) := by omega
              clear hw HWr
              go_wp2_with (first | (at_lookup; refine wpList_lookup_own_ok_int _ rfl _ _ 80 rfl 3 3 .i64 intLaw Try.underlying80 Try.underlying3 (zeroInt _) b m D rfl HOw.out _ _ rfl (key_int (by omega) (by omega)) ?_; intro c hat hwc; rw [HV.out] at hat; simp only [DataW.lit.injEq, Lit.int.injEq, true_and, Option.getD_some] at hat; subst hat; rw [HH.out]; clear hwc))
              go_still_tail 12, (by kernel_rfl)
              change wpList _ _ _ _ _ wr.drew
              have hck2 : wr.drew.cell? ⟨q, k, none⟩ = some (.int .i64 tm) := hck
              have hfz2 : wr.drew.frozen? ⟨q, k, none⟩ = false := hfz
              have HNd : Hid (NRow wr.drew q l.length (updI (fun j => T0.getD j 0) k tm)) := HNr
              have HSd := Lib.hid (HSv.out.trans (save_drew q wr))
              clear hck hcj hfz HNr HSv
              generalize wr.drew = wd at *
              go_wp2_with fail
              go_roundw
              case rel => exact ⟨mm + 1, by omega, by go_num, by have := HNd.out.set k (max tm sj); rw [updI_updI] at this; rw [HE1.out, HF.out]; exact this, HSd.out.trans (Save.set q k wd _)⟩
              case measure => simp [intOf]; omega
          · obtain rfl : mm = us.length := by omega
            rw [List.take_length, ← HIs.out] at hnr
            have HX7 := Lib.hid (CdAt.save HX6.out hsv (by have := HQx.out; omega))
            have HM7 := Lib.hid (HM6.out.kept (Save.gr hsv) (by simp only [ne_eq, Option.some.injEq]; exact hbq2))
            have HB7 := Lib.hid (HB6.out.trans (hsv.below HWq.out HB6.out.size))
            have hck := hnr.cell hlt
            rw [updI_at] at hck
            have hfz := hnr.free k
            obtain ⟨d0, d1, d2, d3, d4, d5⟩ := cell_six_in HX7.out
            simp only at d0 d1 d2 d3 d4 d5
            generalize hlv : lat x0 = lv at *
            have HLv : Hid (∀ u : World, Calls Try.prog 43 #[.int .i64 x0] u fun e w' => e = .returned (.int .i64 lv) ∧ w' = u) := Lib.hid (fun u => (HLx.out u).mono (by rintro e w' ⟨rfl, rfl⟩; exact ⟨by rw [hlv], rfl⟩))
            have HNr := Lib.hid hnr
            have hk0 : (0 : Int) ≤ (k : Int) := by omega
            clear hlv hnr hsv HX6 HM6 HN6 HB6 HO6 HLx
            go_wp2_with fail
            refine wp_region_still_tail 9 (by kernel_rfl) (by kernel_rfl) ?_
            simp only [List.take_succ_cons, List.take_zero, List.drop_succ_cons, List.drop_zero]
            repeat (first | still_step | still_call (HLv.out _))
            refine wpStill_nil ?_
            change wpList _ _ _ _ _ wr.drew
            have hck2 : wr.drew.cell? ⟨q, k, none⟩ = some (.int .i64 ti) := hck
            have hfz2 : wr.drew.frozen? ⟨q, k, none⟩ = false := hfz
            have HNd : Hid (NRow wr.drew q l.length (updI (fun j => T0.getD j 0) k ti)) := HNr
            have HXd : Hid (CdAt wr.drew qx 0 ⟨x0, x1, x2, x3, x4, x5⟩) := Lib.hid ⟨HX7.out.c0, HX7.out.c1, HX7.out.c2, HX7.out.c3, HX7.out.c4, HX7.out.c5⟩
            have HMd := Lib.hid (HM7.out.kept (Save.gr (save_drew q wr)) (by simp only [ne_eq, Option.some.injEq]; exact hbq2))
            have HBd := Lib.hid (HB7.out.trans ((save_drew q wr).below HWq.out HB7.out.size))
            clear hck hfz HNr HX7 HM7 HB7 d0 d1 d2 d3 d4 d5
            generalize wr.drew = wd at *
            go_upto_region 18 with (fail)
            have HX8 := Lib.hid (CdAt.save HXd.out (Save.set q k wd (.int .i64 (ti + lv))) (by have := HQx.out; omega))
            have HM8 := Lib.hid (HMd.out.kept (grown_set wd q k (.int .i64 (ti + lv))) (by simp only [ne_eq, Option.some.injEq]; exact hbq2))
            have HB8 := Lib.hid (HBd.out.trans ((Save.set q k wd (.int .i64 (ti + lv))).below HWq.out HBd.out.size))
            have hn8 := HNd.out.set k (ti + lv)
            rw [updI_updI, HNx.out] at hn8
            have HN8 := Lib.hid hn8
            have HTk : Hid (T1.getD k 0 = ti + lv) := Lib.hid (by have := congrFun HNx.out k; rw [updI_at] at this; exact this.symm)
            clear hn8 HXd HMd HBd HNd hck2 hfz2
            generalize wd.setCell ⟨q, k, none⟩ (.int .i64 (ti + lv)) = w8 at *
            obtain ⟨d0, d1, d2, d3, d4, d5⟩ := cell_six_in HX8.out
            simp only at d0 d1 d2 d3 d4 d5
            cases hfd : fD x0
            · have HDk := Lib.hid (HD.out false hfd)
              rw [hfd] at HStep
              have HSt : Hid (wroF l (k + 1) = f) := Lib.hid (by rw [HStep.out]; rfl)
              clear HStep hfd HD
              go_wp2_with fail
              refine (HDk.out _).mono ?_; rintro e w10 ⟨rfl, hb10⟩
              have HN10 := Lib.hid (HN8.out.below hb10)
              have HM10 := Lib.hid (HM8.out.below hb10)
              have HB10 := Lib.hid (HB8.out.trans (hb10.mono HB8.out.size))
              have hck := HN10.out.cell hlt
              rw [HTk.out] at hck
              clear hb10 d0 d1 d2 d3 d4 d5
              go_wp2_with fail
              go_roundw
              case rel => exact ⟨k + 1, m, by omega, by omega, by go_num, by rw [HBn.out], by rw [HSt.out]; exact HM10.out, by rw [HT1.out]; exact HN10.out, HB10.out⟩
              case measure => simp [intOf]; omega
            · have HDk := Lib.hid (HD.out true hfd)
              rw [hfd] at HStep
              have HSt : Hid (wroF l (k + 1) = putI f x1 (k : Int)) := Lib.hid (by rw [HStep.out]; rfl)
              clear HStep hfd HD
              go_wp2_with fail
              refine (HDk.out _).mono ?_; rintro e w10 ⟨rfl, hb10⟩
              have HN10 := Lib.hid (HN8.out.below hb10)
              have HB10 := Lib.hid (HB8.out.trans (hb10.mono HB8.out.size))
              obtain ⟨D, hown, hmf⟩ := HM8.out.below hb10
              have HOw := Lib.hid hown; have HMf := Lib.hid hmf
              clear hb10 d0 d1 d2 d3 d4 d5 hown hmf
              have hwb := HBw.out
              go_wp2_with (first | (at_mapUpdate; refine wpList_mapUpdate_in _ rfl _ _ _ 80 rfl 3 3 intLaw Try.underlying80 _ b m D rfl HOw.out (by unfold maxLen; omega) _ _ _ rfl rfl (key_int (by omega) (by omega)) _ [] (plainElem_int Try.underlying3 (wf_int (by omega) (by omega))) ?_; intro w12 hown12 hturn12; have HM12 : Hid (MapI w12 b (m + 1) (putI f x1 (k : Int))) := Lib.hid ⟨_, hown12, HMf.out.put x1 (k : Int)⟩; have HN12 := Lib.hid (HN10.out.kept hturn12.grown (by simp only [ne_eq, Option.some.injEq]; exact fun e => hbq2 e.symm)); have HB12 := Lib.hid (turned_below HB10.out hturn12 (Nat.le_refl _) hwb); have hck := HN12.out.cell hlt; rw [HTk.out] at hck; clear hown12 hturn12))
              go_roundw
              case rel => exact ⟨k + 1, m + 1, by omega, by omega, by go_num, by rw [HBn.out], by rw [HSt.out]; exact HM12.out, by rw [HT1.out]; exact HN12.out, HB12.out⟩
              case measure => simp [intOf]; omega
      · obtain rfl : k = l.length := by omega
        have HB := Lib.hid hb
        clear hm hn hb
        go_wp2_with fail
        go_ret2
        exact HG.out _ _ rfl HB.out
  · have HB := Lib.hid (fun w' v hv => HBad.out w' v hv hz)
    clear HI hl HGood HBad
    generalize tErr l = te at *
    go_enter Try.func33, Try.ntmps33
    go_wp2_with fail
    refine HV.out.mono ?_; rintro e w2 ⟨rfl, hb2⟩
    go_wp2_with fail
    go_ret2
    exact HB.out _ _ rfl hb2
end Go.Proofs.Ytccpjfppkahbmaa
