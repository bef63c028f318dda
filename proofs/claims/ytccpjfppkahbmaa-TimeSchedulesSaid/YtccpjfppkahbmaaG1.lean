/- The walk of the specification's Bound. -/
import Derived.Test.YtccpjfppkahbmaaG0
import Derived.Test.YtccpjfppkahbmaaT9
namespace Go.Proofs.Ytccpjfppkahbmaa
open Go.RowKit PK

set_option maxRecDepth 100000 in
set_option maxHeartbeats 8000000 in
theorem rBound_any (l : List Cd) (a : Option Addr) (cap : Nat) (w : World) (hin : CdsIn w a l) (hl : l.length ≤ 1099511627776) :
    Calls Try.prog 34 #[.slice a l.length cap] w (BoundPost l w) := by
  have HI := Lib.hid hin
  have HV := Lib.hid (rValidate_any l a cap w hin hl)
  have HBad := Lib.hid (bound_bad l w)
  have HGood := Lib.hid (bound_good l w)
  clear hin
  by_cases hz : tErr l = 0
  · obtain ⟨h40, hok⟩ := tErr_zero hz
    have HOk := Lib.hid hok
    have HG := Lib.hid (fun w' v hv hb => HGood.out w' v hz hv hb)
    rw [hz] at HV
    clear hz hok HBad HGood hl
    go_enter Try.func34, Try.ntmps34
    go_wp2_with fail
    refine HV.out.mono ?_; rintro e w2 ⟨rfl, hb2⟩
    have HB0 := Lib.hid hb2
    clear hb2 HV
    go_wp2_with fail
    obtain ⟨i0, hi, ip0, ip1, ip2⟩ := info_parts Try.infoInt
    go_loopw [5, 6, 7] (fun g v i wr => ∃ k : Nat, k ≤ l.length ∧ i = .int .i64 k ∧ g = .int .i64 (bndN l k) ∧ wr.ownsRow w.heap.size 3 1 v (sumN l k).length (PK.encI (sumN l k)) ∧ Below w.heap.size w wr) (fun _ _ i _ => l.length - (intOf i).toNat)
    case atStart => exact ⟨0, Nat.zero_le _, rfl, rfl, owns_nil _ _ _ _, HB0.out⟩
    case round =>
      obtain ⟨k, hk, rfl, rfl, ho, hb⟩ := hrel
      by_cases hlt : k < l.length
      · obtain ⟨bb, off, rfl, hc⟩ := HI.out.below hb k hlt
        obtain ⟨ra, rc, rfl, hrc, hts⟩ := ints_of_owns ho
        have HO := Lib.hid ho; have HB := Lib.hid hb; have HTs := Lib.hid hts
        have hokk := HOk.out k hlt
        have HSm := Lib.hid (sumF_small l k)
        have HIs : Hid (sumT l (sumN l k) k = foldT (sumF l (sumN l k) k) (rdR (atC l k)) 0) := Lib.hid (foldT_rd hokk _ _).symm
        have hti := foldT_small (f := sumF l (sumN l k) k) (m := 12 * (k : Int)) (fun r => (sumF_small l k r).2) (rs := rdR (atC l k)) (t := 0) (Int.le_refl 0) (by omega)
        rw [← HIs.out] at hti
        have HLs : Hid (sumN l (k + 1) = sumN l k ++ [sumT l (sumN l k) k + lat (atC l k).op]) := Lib.hid rfl
        have HBn : Hid (bndN l (k + 1) = max (bndN l k) (sumT l (sumN l k) k + lat (atC l k).op)) := Lib.hid rfl
        have hbn := bndN_small l k
        have hlx := lat_small (atC l k).op
        have HReg := Lib.hid (rdR_reg hokk)
        have HRd := Lib.hid (reads_any (atC l k))
        have HLx := Lib.hid (rLat_any (atC l k).op)
        have HLk := Lib.hid (sumN_len l k)
        have hrl := rdR_len (atC l k)
        have HIk := Lib.hid (show k < l.length from hlt)
        clear ho hb hts hokk
        generalize hx : atC l k = x at *
        clear hx
        generalize rdR x = rs at *
        generalize sumT l (sumN l k) k = ti at *
        generalize bndN l k = bn at *
        obtain ⟨x0, x1, x2, x3, x4, x5⟩ := x
        obtain ⟨c0, c1, c2, c3, c4, c5⟩ := hc
        simp only at c0 c1 c2 c3 c4 c5 hlx HLs HBn
        have HRd : Hid (∀ w : World, Calls Try.prog 63 #[.agg #[.int .i64 x0, .int .i64 x1, .int .i64 x2, .int .i64 x3, .int .u32 x4, .int .i64 x5]] w (RdPost rs w)) := HRd
        have HLx : Hid (∀ w : World, Calls Try.prog 44 #[.int .i64 x0] w (LatPost x0 w)) := HLx
        go_wp2_with fail
        refine (HRd.out _).mono ?_; rintro e w2 ⟨⟨va, vc, rfl, hrs⟩, hb2⟩
        have HRs := Lib.hid hrs
        have HB2 := Lib.hid (HB.out.trans (hb2.mono HB.out.size))
        have HO2 := Lib.hid (owns_below HO.out hb2)
        have HT2 := Lib.hid (HTs.out.below hb2)
        have HI2 := Lib.hid (HI.out.below HB2.out)
        have C0 := Lib.hid (keep c0 hb2)
        clear hb2 hrs HRd c0 c1 c2 c3 c4 c5
        go_wp2_with fail
        go_loopw [8, 10] (fun t i wr2 => ∃ m : Nat, m ≤ rs.length ∧ i = .int .i64 m ∧ t = .int .i64 (foldT (sumF l (sumN l k) k) (rs.take m) 0) ∧ Below w2.heap.size w2 wr2) (fun _ i _ => rs.length - (intOf i).toNat)
        case atStart => exact ⟨0, Nat.zero_le _, rfl, rfl, Below.refl _ _⟩
        case round =>
          obtain ⟨m, hm, rfl, rfl, hb⟩ := hrel
          by_cases hml : m < rs.length
          · obtain ⟨bu, offu, rfl, cu⟩ := HRs.out.below hb m hml
            have HT := Lib.hid (foldT_take (sumF l (sumN l k) k) rs 0 hml)
            have hrg := HReg.out (rs.getD m 0) (by rw [List.getD_eq_getElem?_getD, List.getElem?_eq_getElem hml]; exact List.getElem_mem hml)
            have hfs := foldT_small (f := sumF l (sumN l k) k) (m := 12 * (k : Int)) (fun r => (HSm.out r).2) (rs := rs.take m) (t := 0) (Int.le_refl 0) (by omega)
            have HB3 := Lib.hid hb
            clear hb
            generalize rs.getD m 0 = r at *
            generalize foldT (sumF l (sumN l k) k) (rs.take m) 0 = tm at *
            go_wp2_with fail
            go_loopw [8, 11] (fun t i wr3 => ∃ jj : Nat, jj ≤ k ∧ t = .int .i64 tm ∧ i = .int .i64 ((jj : Int) - 1) ∧ lastW l r k = lastW l r jj ∧ Below wr.heap.size wr wr3) (fun _ i _ => (intOf i + 1).toNat)
            case atStart => exact ⟨k, Nat.le_refl _, rfl, by go_num, rfl, Below.refl _ _⟩
            case round =>
              obtain ⟨jj, hjj, rfl, rfl, hlast, hb⟩ := hrel
              have HL := Lib.hid hlast
              have HB4 := Lib.hid hb
              clear hlast hb
              by_cases hj0 : jj = 0
              · subst hj0
                have HF : Hid (max tm ((sumF l (sumN l k) k r).getD 0) = tm) := Lib.hid (by
                  unfold sumF; rw [HL.out]; show max tm 0 = tm; omega)
                go_wp2_with fail
                go_roundw
                case rel => exact ⟨m + 1, by omega, by go_num, by rw [HT.out, HF.out], HB3.out.trans (HB4.out.mono HB3.out.size)⟩
                case measure => simp [intOf]; omega
              · skip
                obtain ⟨j, rfl⟩ : ∃ j, jj = j + 1 := ⟨jj - 1, by omega⟩
                have hb34 := HB3.out.trans (HB4.out.mono HB3.out.size)
                obtain ⟨b1, o1, e1, hcj⟩ := HI2.out.below hb34 j (by omega)
                simp only [Option.some.injEq, Addr.mk.injEq, and_true] at e1
                obtain ⟨rfl, rfl⟩ := e1
                obtain ⟨bt, offt, e2, htj⟩ := HT2.out.below hb34 j (by have := HLk.out; omega)
                subst e2
                have cu3 := keep cu HB4.out
                have HJ := Lib.hid (show j < l.length by have := HIk.out; omega)
                have HMiss := Lib.hid (fun h => lastW_miss (l := l) (r := r) (j := j) hrg.1 h)
                have HHit := Lib.hid (fun h => lastW_hit (l := l) (r := r) (j := j) hrg.1 h)
                have HW := Lib.hid (writes_any (atC l j))
                have hbj := sumN_small l k j (by omega)
                have HF : Hid (lastW l r (j + 1) = some j → (sumF l (sumN l k) k r).getD 0 = (sumN l k).getD j 0) := Lib.hid (fun h => by
                  unfold sumF; rw [HL.out, h]; rfl)
                clear hb34
                generalize atC l j = y at *
                generalize (sumN l k).getD j 0 = tj at *
                generalize hwy : wrR y = wy at *
                have HWy := Lib.hid hwy; clear hwy
                obtain ⟨y0, y1, y2, y3, y4, y5⟩ := y
                obtain ⟨d0, d1, d2, d3, d4, d5⟩ := hcj
                simp only at d0 d1 d2 d3 d4 d5
                have HW : Hid (∀ w : World, Calls Try.prog 64 #[.agg #[.int .i64 y0, .int .i64 y1, .int .i64 y2, .int .i64 y3, .int .u32 y4, .int .i64 y5]] w fun e w' => e = .returned (.int .i64 wy) ∧ Below w.heap.size w w') := HW
                have hjl : (j : Int) < (l.length : Int) := by have := HJ.out; omega
                have hml2 : (m : Int) < (rs.length : Int) := by omega
                have hj0 : (0 : Int) ≤ (j : Int) := by omega
                have hm0 : (0 : Int) ≤ (m : Int) := by omega
                by_cases hwr : wy = r
                · have hwr2 : (wy == r) = true := by simpa using hwr
                  have HFj := Lib.hid (HF.out (HHit.out hwr))
                  have hjt : (j : Int) < ((sumN l k).length : Int) := by have := HLk.out; omega
                  go_wp2_with fail
                  go_region_held3 (fun w' => w'.cell? ⟨bb, off + j * 6, none⟩ = some (.int .i64 y0) ∧ w'.cell? ⟨bb, off + j * 6 + 1, none⟩ = some (.int .i64 y1) ∧ w'.cell? ⟨bb, off + j * 6 + 2, none⟩ = some (.int .i64 y2) ∧ w'.cell? ⟨bb, off + j * 6 + 3, none⟩ = some (.int .i64 y3) ∧ w'.cell? ⟨bb, off + j * 6 + 4, none⟩ = some (.int .u32 y4) ∧ w'.cell? ⟨bb, off + j * 6 + 5, none⟩ = some (.int .i64 y5) ∧ w'.cell? ⟨bu, offu + m, none⟩ = some (.int .i64 r))
                    (first | exact ⟨d0, d1, d2, d3, d4, d5, cu3⟩ | exact ⟨keep d0 (by assumption), keep d1 (by assumption), keep d2 (by assumption), keep d3 (by assumption), keep d4 (by assumption), keep d5 (by assumption), keep cu3 (by assumption)⟩)
                    (first | (go_at_call 64; refine (HW.out _).mono ?_; rintro e w5 ⟨rfl, hb5⟩; have hb5 := below_of_drew hb5))
                  have HB5 := Lib.hid (HB4.out.trans (hb5.mono HB4.out.size))
                  have htj := keep htj hb5
                  clear hb5 d0 d1 d2 d3 d4 d5 HF
                  have HFn : Hid (max tm tj = foldT (sumF l (sumN l k) k) (rs.take (m + 1)) 0) := Lib.hid (by rw [HT.out, HFj.out])
                  go_wp2_with fail
                  go_roundw
                  case rel => exact ⟨m + 1, by omega, by go_num, by rw [← HFn.out], HB3.out.trans (HB5.out.mono HB3.out.size)⟩
                  case measure => simp [intOf]; omega
                · have hwr2 : (wy == r) = false := by simpa using hwr
                  have HM := Lib.hid (HMiss.out hwr)
                  go_wp2_with fail
                  go_region_held3 (fun w' => w'.cell? ⟨bb, off + j * 6, none⟩ = some (.int .i64 y0) ∧ w'.cell? ⟨bb, off + j * 6 + 1, none⟩ = some (.int .i64 y1) ∧ w'.cell? ⟨bb, off + j * 6 + 2, none⟩ = some (.int .i64 y2) ∧ w'.cell? ⟨bb, off + j * 6 + 3, none⟩ = some (.int .i64 y3) ∧ w'.cell? ⟨bb, off + j * 6 + 4, none⟩ = some (.int .u32 y4) ∧ w'.cell? ⟨bb, off + j * 6 + 5, none⟩ = some (.int .i64 y5) ∧ w'.cell? ⟨bu, offu + m, none⟩ = some (.int .i64 r))
                    (first | exact ⟨d0, d1, d2, d3, d4, d5, cu3⟩ | exact ⟨keep d0 (by assumption), keep d1 (by assumption), keep d2 (by assumption), keep d3 (by assumption), keep d4 (by assumption), keep d5 (by assumption), keep cu3 (by assumption)⟩)
                    (first | (go_at_call 64; refine (HW.out _).mono ?_; rintro e w5 ⟨rfl, hb5⟩; have hb5 := below_of_drew hb5))
                  have HB5 := Lib.hid (HB4.out.trans (hb5.mono HB4.out.size))
                  clear hb5
                  go_wp2_with fail
                  go_roundw
                  case rel => exact ⟨j, by omega, rfl, by go_num, by rw [HL.out, HM.out], HB5.out⟩
                  case measure => simp [intOf]
          · obtain rfl : m = rs.length := by omega
            rw [List.take_length, ← HIs.out]
            have c0 := keep C0.out hb
            generalize hlv : lat x0 = lv at *
            have HLv := Lib.hid hlv; clear hlv
            have hal := (Below.refl wr.heap.size wr).alloc (Nat.le_refl _) (.cells #[.int .i64 (ti + lv)] 3)
            have HO4 := Lib.hid ((owns_below HO2.out hb).alloc (.cells #[.int .i64 (ti + lv)] 3))
            have HB3 := HB2.out.trans (hb.mono HB2.out.size)
            have HB4 := Lib.hid (HB3.trans (hal.mono HB3.size))
            have HZ4 := Lib.hid HB4.out.size
            have HN4 := Lib.hid (cell_one_at wr (.int .i64 (ti + lv)) 3)
            have HS63 : Hid ((sumN l k).length + 1 ≤ maxLen) := Lib.hid (by have := HLk.out; unfold maxLen; omega)
            have HSb : Hid (((sumN l k).length + 1) * 8 ≤ 140737488355328) := Lib.hid (by have := HLk.out; omega)
            have hki : (k : Int) < (((sumN l k).length + 1 : Nat) : Int) := by have := HLk.out; omega
            clear hal hb HB3
            go_wp2_with (first | (go_at_call 44; refine (HLx.out _).mono ?_; rintro e w11 ⟨rfl, rfl⟩; rw [HLv.out]) | (at_builtin; refine wpList_append_own_at _ rfl _ _ 25 rfl w.heap.size 3 i0 (.int .i64 0) 1 8 Try.underlying25 hi ip0 ip1 ip2 rfl (by decide) _ _ _ rfl HO4.out ⟨wr.heap.size, 0, none⟩ 1 1 [.int .i64 (ti + lv)] rfl rfl HN4.out (one_int _) HS63.out HSb.out HZ4.out ?_; intro v9 w9 hown9 hgrow9 _ hat9; obtain ⟨a9, c9, rfl, hin9⟩ := ints_snoc hown9; obtain ⟨b9, o9, rfl, hc9⟩ := ints_last hin9; rw [HLk.out] at hc9; have HB9 := Lib.hid (HB4.out.grown hgrow9 HB4.out.size (fun g hg => (owns_block HO4.out hg).1)); have HO9 := Lib.hid hown9; clear hown9 hgrow9 hat9 hin9))
            go_roundw
            case rel => exact ⟨k + 1, by omega, by go_num, by rw [HBn.out], by rw [HLs.out, List.length_append, encI_snoc]; exact HO9.out, HB9.out⟩
            case measure => simp [intOf]; omega
      · obtain rfl : k = l.length := by omega
        have HB := Lib.hid hb
        clear ho hb
        go_wp2_with fail
        go_ret2
        exact HG.out _ _ rfl HB.out
  · have HB := Lib.hid (fun w' v hv => HBad.out w' v hv hz)
    clear HI hl HGood HBad
    generalize tErr l = te at *
    go_enter Try.func34, Try.ntmps34
    go_wp2_with fail
    refine HV.out.mono ?_; rintro e w2 ⟨rfl, hb2⟩
    go_wp2_with fail
    go_ret2
    exact HB.out _ _ rfl hb2
end Go.Proofs.Ytccpjfppkahbmaa
