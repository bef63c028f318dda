/- The walk of the specification's issue. -/
import Derived.Test.YtccpjfppkahbmaaT8
import Derived.Deep.RegionHeld3
namespace Go.Proofs.Ytccpjfppkahbmaa
open Go.RowKit PK

theorem rdR_len (x : Cd) : (rdR x).length ≤ 2 := by
  unfold rdR
  repeat' split
  all_goals simp
set_option maxRecDepth 100000 in
set_option maxHeartbeats 8000000 in
theorem rIssue_any (l : List Cd) (a : Option Addr) (cap : Nat) (w : World) (hin : CdsIn w a l) (hl : l.length ≤ 40) (hok : ∀ k, k < l.length → okC (atC l k) = true) :
    Calls Try.prog 40 #[.slice a l.length cap] w (RdPost (issN l l.length) w) := by
  have HI := Lib.hid hin
  have HOk := Lib.hid hok
  clear hin hok
  have HO0 : Hid (w.ownsRow w.heap.size 3 1 (.slice none 0 0) (issN l 0).length (PK.encI (issN l 0))) := Lib.hid (owns_nil _ _ _ _)
  go_enter Try.func40, Try.ntmps40
  go_wp2_with fail
  obtain ⟨i0, hi, ip0, ip1, ip2⟩ := info_parts Try.infoInt
  go_loopw [3, 4] (fun v i wr => ∃ k : Nat, k ≤ l.length ∧ i = .int .i64 k ∧ wr.ownsRow w.heap.size 3 1 v (issN l k).length (PK.encI (issN l k)) ∧ Below w.heap.size w wr) (fun _ i _ => l.length - (intOf i).toNat)
  case atStart => exact ⟨0, Nat.zero_le _, rfl, HO0.out, Below.refl _ _⟩
  case round =>
    obtain ⟨k, hk, rfl, ho, hb⟩ := hrel
    by_cases hlt : k < l.length
    · obtain ⟨bb, off, rfl, hc⟩ := HI.out.below hb k hlt
      obtain ⟨ra, rc, rfl, hrc, hts⟩ := ints_of_owns ho
      have HO := Lib.hid ho; have HB := Lib.hid hb; have HTs := Lib.hid hts
      have hokk := HOk.out k hlt
      have HSm := Lib.hid (rdyF_small l k)
      have hst := startT_small l k
      have HIs : Hid (issAt l (issN l k) k = foldT (rdyF l (issN l k) k) (rdR (atC l k)) (startT (issN l k) k)) := Lib.hid (foldT_rd hokk _ _).symm
      have HLs : Hid (issN l (k + 1) = issN l k ++ [issAt l (issN l k) k]) := Lib.hid rfl
      have HReg := Lib.hid (rdR_reg hokk)
      have HRd := Lib.hid (reads_any (atC l k))
      have HLk := Lib.hid (issN_len l k)
      have hrl := rdR_len (atC l k)
      clear ho hb hts hokk
      generalize hx : atC l k = x at *
      clear hx
      generalize rdR x = rs at *
      obtain ⟨x0, x1, x2, x3, x4, x5⟩ := x
      obtain ⟨c0, c1, c2, c3, c4, c5⟩ := hc
      simp only at c0 c1 c2 c3 c4 c5
      have HRd : Hid (∀ w : World, Calls Try.prog 63 #[.agg #[.int .i64 x0, .int .i64 x1, .int .i64 x2, .int .i64 x3, .int .u32 x4, .int .i64 x5]] w (RdPost rs w)) := HRd
      by_cases hk0 : k = 0
      · subst hk0
        have HSt0 : Hid (startT (issN l 0) 0 = 0) := Lib.hid rfl
        simp only [Nat.zero_mul, Nat.add_zero] at c0 c1 c2 c3 c4 c5
        go_wp2_with fail
        refine (HRd.out _).mono ?_; rintro e w2 ⟨⟨va, vc, rfl, hrs⟩, hb2⟩
        have HRs := Lib.hid hrs
        have HB2 := Lib.hid (HB.out.trans (hb2.mono HB.out.size))
        have HO2 := Lib.hid (owns_below HO.out hb2)
        have HT2 := Lib.hid (HTs.out.below hb2)
        have HI2 := Lib.hid (HI.out.below HB2.out)
        clear hb2 hrs HRd
        go_wp2_with fail
        go_loopw [5, 7] (fun t i wr2 => ∃ m : Nat, m ≤ rs.length ∧ i = .int .i64 m ∧ t = .int .i64 (foldT (rdyF l (issN l 0) 0) (rs.take m) (startT (issN l 0) 0)) ∧ Below w2.heap.size w2 wr2) (fun _ i _ => rs.length - (intOf i).toNat)
        case atStart => exact ⟨0, Nat.zero_le _, rfl, by rw [HSt0.out]; rfl, Below.refl _ _⟩
        case round =>
          obtain ⟨m, hm, rfl, rfl, hb⟩ := hrel
          by_cases hml : m < rs.length
          · obtain ⟨bu, offu, rfl, cu⟩ := HRs.out.below hb m hml
            have HT := Lib.hid (foldT_take (rdyF l (issN l 0) 0) rs (startT (issN l 0) 0) hml)
            have hrg := HReg.out (rs.getD m 0) (by rw [List.getD_eq_getElem?_getD, List.getElem?_eq_getElem hml]; exact List.getElem_mem hml)
            have hfs := foldT_small (f := rdyF l (issN l 0) 0) (m := 13 * ((0 : Nat) : Int)) (fun r => (HSm.out r).2) (rs := rs.take m) hst.1 hst.2
            have HB3 := Lib.hid hb
            clear hb
            generalize rs.getD m 0 = r at *
            generalize foldT (rdyF l (issN l 0) 0) (rs.take m) (startT (issN l 0) 0) = tm at *
            go_wp2_with fail
            go_loopw [5, 8] (fun t i wr3 => ∃ jj : Nat, jj ≤ 0 ∧ t = .int .i64 tm ∧ i = .int .i64 ((jj : Int) - 1) ∧ lastW l r 0 = lastW l r jj ∧ Below wr.heap.size wr wr3) (fun _ i _ => (intOf i + 1).toNat)
            case atStart => exact ⟨0, Nat.le_refl _, rfl, by go_num, rfl, Below.refl _ _⟩
            case round =>
              obtain ⟨jj, hjj, rfl, rfl, hlast, hb⟩ := hrel
              have HL := Lib.hid hlast
              have HB4 := Lib.hid hb
              clear hlast hb
              by_cases hj0 : jj = 0
              · subst hj0
                have HF : Hid (max tm ((rdyF l (issN l 0) 0 r).getD 0) = tm) := Lib.hid (by
                  unfold rdyF; rw [HL.out]; show max tm 0 = tm; omega)
                go_wp2_with fail
                go_roundw
                case rel => exact ⟨m + 1, by omega, by go_num, by rw [HT.out, HF.out], HB3.out.trans (HB4.out.mono HB3.out.size)⟩
                case measure => simp [intOf]; omega
              · exact absurd hjj (by omega)
          · obtain rfl : m = rs.length := by omega
            rw [List.take_length, ← HIs.out]
            generalize issAt l (issN l 0) 0 = ti at *
            have hal := (Below.refl wr.heap.size wr).alloc (Nat.le_refl _) (.cells #[.int .i64 ti] 3)
            have HO4 := Lib.hid ((owns_below HO2.out hb).alloc (.cells #[.int .i64 ti] 3))
            have HB3 := HB2.out.trans (hb.mono HB2.out.size)
            have HB4 := Lib.hid (HB3.trans (hal.mono HB3.size))
            have HZ4 := Lib.hid HB4.out.size
            have HN4 := Lib.hid (cell_one_at wr (.int .i64 ti) 3)
            have HS63 : Hid ((issN l 0).length + 1 ≤ maxLen) := Lib.hid (by have := HLk.out; unfold maxLen; omega)
            have HSb : Hid (((issN l 0).length + 1) * 8 ≤ 140737488355328) := Lib.hid (by have := HLk.out; omega)
            clear hal hb HB3
            go_wp2_with (first | (at_builtin; refine wpList_append_own_at _ rfl _ _ 25 rfl w.heap.size 3 i0 (.int .i64 0) 1 8 Try.underlying25 hi ip0 ip1 ip2 rfl (by decide) _ _ _ rfl HO4.out ⟨wr.heap.size, 0, none⟩ 1 1 [.int .i64 ti] rfl rfl HN4.out (one_int _) HS63.out HSb.out HZ4.out ?_; intro v9 w9 hown9 hgrow9 _ hat9; have HB9 := Lib.hid (HB4.out.grown hgrow9 HB4.out.size (fun g hg => (owns_block HO4.out hg).1)); have HO9 := Lib.hid hown9; clear hown9 hgrow9 hat9))
            go_roundw
            case rel => exact ⟨0 + 1, by omega, by go_num, by rw [HLs.out, List.length_append, encI_snoc]; exact HO9.out, HB9.out⟩
            case measure => simp [intOf]; omega
      · obtain ⟨p, rfl⟩ : ∃ p, k = p + 1 := ⟨k - 1, by omega⟩
        obtain ⟨bt, offt, rfl, ct⟩ := HTs.out p (by rw [issN_len]; omega)
        have HSt0 : Hid (startT (issN l (p + 1)) (p + 1) = (issN l (p + 1)).getD p 0 + 1) := Lib.hid rfl
        have hbt := issN_small l (p + 1) p (by omega)
        generalize (issN l (p + 1)).getD p 0 = tp at *
        have hidx : p < (issN l (p + 1)).length := by rw [HLk.out]; omega
        go_wp2_with fail
        clear hidx
        refine (HRd.out _).mono ?_; rintro e w2 ⟨⟨va, vc, rfl, hrs⟩, hb2⟩
        have HRs := Lib.hid hrs
        have HB2 := Lib.hid (HB.out.trans (hb2.mono HB.out.size))
        have HO2 := Lib.hid (owns_below HO.out hb2)
        have HT2 := Lib.hid (HTs.out.below hb2)
        have HI2 := Lib.hid (HI.out.below HB2.out)
        clear hb2 hrs HRd
        go_wp2_with fail
        go_loopw [5, 7] (fun t i wr2 => ∃ m : Nat, m ≤ rs.length ∧ i = .int .i64 m ∧ t = .int .i64 (foldT (rdyF l (issN l (p + 1)) (p + 1)) (rs.take m) (startT (issN l (p + 1)) (p + 1))) ∧ Below w2.heap.size w2 wr2) (fun _ i _ => rs.length - (intOf i).toNat)
        case atStart => exact ⟨0, Nat.zero_le _, rfl, by rw [HSt0.out]; rfl, Below.refl _ _⟩
        case round =>
          obtain ⟨m, hm, rfl, rfl, hb⟩ := hrel
          by_cases hml : m < rs.length
          · obtain ⟨bu, offu, rfl, cu⟩ := HRs.out.below hb m hml
            have HT := Lib.hid (foldT_take (rdyF l (issN l (p + 1)) (p + 1)) rs (startT (issN l (p + 1)) (p + 1)) hml)
            have hrg := HReg.out (rs.getD m 0) (by rw [List.getD_eq_getElem?_getD, List.getElem?_eq_getElem hml]; exact List.getElem_mem hml)
            have hfs := foldT_small (f := rdyF l (issN l (p + 1)) (p + 1)) (m := 13 * (((p + 1) : Nat) : Int)) (fun r => (HSm.out r).2) (rs := rs.take m) hst.1 hst.2
            have HB3 := Lib.hid hb
            clear hb
            generalize rs.getD m 0 = r at *
            generalize foldT (rdyF l (issN l (p + 1)) (p + 1)) (rs.take m) (startT (issN l (p + 1)) (p + 1)) = tm at *
            go_wp2_with fail
            go_loopw [5, 8] (fun t i wr3 => ∃ jj : Nat, jj ≤ (p + 1) ∧ t = .int .i64 tm ∧ i = .int .i64 ((jj : Int) - 1) ∧ lastW l r (p + 1) = lastW l r jj ∧ Below wr.heap.size wr wr3) (fun _ i _ => (intOf i + 1).toNat)
            case atStart => exact ⟨(p + 1), Nat.le_refl _, rfl, by go_num, rfl, Below.refl _ _⟩
            case round =>
              obtain ⟨jj, hjj, rfl, rfl, hlast, hb⟩ := hrel
              have HL := Lib.hid hlast
              have HB4 := Lib.hid hb
              clear hlast hb
              by_cases hj0 : jj = 0
              · subst hj0
                have HF : Hid (max tm ((rdyF l (issN l (p + 1)) (p + 1) r).getD 0) = tm) := Lib.hid (by
                  unfold rdyF; rw [HL.out]; show max tm 0 = tm; omega)
                go_wp2_with fail
                go_roundw
                case rel => exact ⟨m + 1, by omega, by go_num, by rw [HT.out, HF.out], HB3.out.trans (HB4.out.mono HB3.out.size)⟩
                case measure => simp [intOf]; omega
              · skip
                obtain ⟨j, rfl⟩ : ∃ j, jj = j + 1 := ⟨jj - 1, by omega⟩
                have hb34 := HB3.out.trans (HB4.out.mono HB3.out.size)
                obtain ⟨b1, o1, e1, hcj⟩ := HI2.out.below hb34 j (by omega)
                simp only [Option.some.injEq, Addr.mk.injEq, and_true] at e1
                obtain ⟨rfl, rfl⟩ := e1
                obtain ⟨b2, o2, e2, htj⟩ := HT2.out.below hb34 j (by have := HLk.out; omega)
                simp only [Option.some.injEq, Addr.mk.injEq, and_true] at e2
                obtain ⟨rfl, rfl⟩ := e2
                have cu3 := keep cu HB4.out
                have HJ := Lib.hid (show j < l.length by omega)
                have HMiss := Lib.hid (fun h => lastW_miss (l := l) (r := r) (j := j) hrg.1 h)
                have HHit := Lib.hid (fun h => lastW_hit (l := l) (r := r) (j := j) hrg.1 h)
                have HW := Lib.hid (writes_any (atC l j))
                have hbj := issN_small l (p + 1) j (by omega)
                have HF : Hid (lastW l r (j + 1) = some j → (rdyF l (issN l (p + 1)) (p + 1) r).getD 0 = (issN l (p + 1)).getD j 0 + lat (atC l j).op) := Lib.hid (fun h => by
                  unfold rdyF; rw [HL.out, h]; rfl)
                have HLat := Lib.hid (rLat_any (atC l j).op)
                have hls := lat_small (atC l j).op
                clear hb34
                generalize atC l j = y at *
                generalize (issN l (p + 1)).getD j 0 = tj at *
                generalize hwy : wrR y = wy at *
                have HWy := Lib.hid hwy; clear hwy
                obtain ⟨y0, y1, y2, y3, y4, y5⟩ := y
                obtain ⟨d0, d1, d2, d3, d4, d5⟩ := hcj
                simp only at d0 d1 d2 d3 d4 d5 hls
                have HW : Hid (∀ w : World, Calls Try.prog 64 #[.agg #[.int .i64 y0, .int .i64 y1, .int .i64 y2, .int .i64 y3, .int .u32 y4, .int .i64 y5]] w fun e w' => e = .returned (.int .i64 wy) ∧ Below w.heap.size w w') := HW
                by_cases hwr : wy = r
                · have hwr2 : (wy == r) = true := by simpa using hwr
                  have HFj := Lib.hid (HF.out (HHit.out hwr))
                  have hjl : (j : Int) < (l.length : Int) := by have := HJ.out; omega
                  have hml2 : (m : Int) < (rs.length : Int) := by omega
                  have hj0 : (0 : Int) ≤ (j : Int) := by omega
                  have hm0 : (0 : Int) ≤ (m : Int) := by omega
                  have hjt : (j : Int) < ((issN l (p + 1)).length : Int) := by have := HLk.out; omega
                  go_wp2_with fail
                  go_region_held3 (fun w' => w'.cell? ⟨bb, off + j * 6, none⟩ = some (.int .i64 y0) ∧ w'.cell? ⟨bb, off + j * 6 + 1, none⟩ = some (.int .i64 y1) ∧ w'.cell? ⟨bb, off + j * 6 + 2, none⟩ = some (.int .i64 y2) ∧ w'.cell? ⟨bb, off + j * 6 + 3, none⟩ = some (.int .i64 y3) ∧ w'.cell? ⟨bb, off + j * 6 + 4, none⟩ = some (.int .u32 y4) ∧ w'.cell? ⟨bb, off + j * 6 + 5, none⟩ = some (.int .i64 y5) ∧ w'.cell? ⟨bu, offu + m, none⟩ = some (.int .i64 r))
                    (first | exact ⟨d0, d1, d2, d3, d4, d5, cu3⟩ | exact ⟨keep d0 (by assumption), keep d1 (by assumption), keep d2 (by assumption), keep d3 (by assumption), keep d4 (by assumption), keep d5 (by assumption), keep cu3 (by assumption)⟩)
                    (first | (go_at_call 64; refine (HW.out _).mono ?_; rintro e w5 ⟨rfl, hb5⟩; have hb5 := below_of_drew hb5))
                  have HB5 := Lib.hid (HB4.out.trans (hb5.mono HB4.out.size))
                  have d0 := keep d0 hb5
                  have htj := keep htj hb5
                  clear hb5 d1 d2 d3 d4 d5
                  have HFk : Hid ((rdyF l (issN l (p + 1)) (p + 1) r).getD 0 = tj + lat y0) := HFj
                  have HLat : Hid (∀ w : World, Calls Try.prog 44 #[.int .i64 y0] w (LatPost y0 w)) := HLat
                  clear HFj HF
                  have HFn : Hid (max tm (tj + lat y0) = foldT (rdyF l (issN l (p + 1)) (p + 1)) (rs.take (m + 1)) (startT (issN l (p + 1)) (p + 1))) := Lib.hid (by rw [HT.out, HFk.out])
                  go_wp2_with fail
                  have HLat2 : Hid (∀ w : World, Calls Try.prog 44 #[.int .i64 y0] w fun e w' => e = .returned (.int .i64 (lat y0)) ∧ Below w.heap.size w w') := Lib.hid fun w => (HLat.out w).mono (by rintro e w' ⟨rfl, rfl⟩; exact ⟨rfl, Below.refl _ _⟩)
                  clear HLat
                  generalize lat y0 = lv at *
                  go_region_held3 (fun w' => w'.cell? ⟨bb, off + j * 6, none⟩ = some (.int .i64 y0) ∧ w'.cell? ⟨bt, offt + j, none⟩ = some (.int .i64 tj))
                    (first | exact ⟨d0, htj⟩ | exact ⟨keep d0 (by assumption), keep htj (by assumption)⟩)
                    (first | (go_at_call 44; refine (HLat2.out _).mono ?_; rintro e w6 ⟨rfl, hb6⟩; have hb6 := below_of_drew hb6))
                  have HB6 := Lib.hid (HB5.out.trans (hb6.mono HB5.out.size))
                  go_wp2_with fail
                  go_roundw
                  case rel => exact ⟨m + 1, by omega, by go_num, by rw [show IntKind.i64.wrap (tj + lv) = tj + lv by rw [IntKind.wrap_i64]; omega, ← HFn.out], HB3.out.trans (HB6.out.mono HB3.out.size)⟩
                  case measure => simp [intOf]; omega
                · have hwr2 : (wy == r) = false := by simpa using hwr
                  have HM := Lib.hid (HMiss.out hwr)
                  have hjl : (j : Int) < (l.length : Int) := by have := HJ.out; omega
                  have hml2 : (m : Int) < (rs.length : Int) := by omega
                  have hj0 : (0 : Int) ≤ (j : Int) := by omega
                  have hm0 : (0 : Int) ≤ (m : Int) := by omega
                  go_wp2_with fail
                  go_region_held3 (fun w' => w'.cell? ⟨bb, off + j * 6, none⟩ = some (.int .i64 y0) ∧ w'.cell? ⟨bb, off + j * 6 + 1, none⟩ = some (.int .i64 y1) ∧ w'.cell? ⟨bb, off + j * 6 + 2, none⟩ = some (.int .i64 y2) ∧ w'.cell? ⟨bb, off + j * 6 + 3, none⟩ = some (.int .i64 y3) ∧ w'.cell? ⟨bb, off + j * 6 + 4, none⟩ = some (.int .u32 y4) ∧ w'.cell? ⟨bb, off + j * 6 + 5, none⟩ = some (.int .i64 y5) ∧ w'.cell? ⟨bu, offu + m, none⟩ = some (.int .i64 r))
                    (first | exact ⟨d0, d1, d2, d3, d4, d5, cu3⟩ | exact ⟨keep d0 (by assumption), keep d1 (by assumption), keep d2 (by assumption), keep d3 (by assumption), keep d4 (by assumption), keep d5 (by assumption), keep cu3 (by assumption)⟩)
                    (first | (go_at_call 64; refine (HW.out _).mono ?_; rintro e w5 ⟨rfl, hb5⟩; have hb5 := below_of_drew hb5))
                  have HB5 := Lib.hid (HB4.out.trans (hb5.mono HB4.out.size))
                  clear hb5
                  go_wp2_with fail
                  go_roundw
                  case rel => exact ⟨j, by omega, rfl, by go_num, by rw [HL.out, HM.out], HB5.out⟩
                  case measure => simp [intOf]
          · obtain rfl : m = rs.length := by omega
            rw [List.take_length, ← HIs.out]
            generalize issAt l (issN l (p + 1)) (p + 1) = ti at *
            have hal := (Below.refl wr.heap.size wr).alloc (Nat.le_refl _) (.cells #[.int .i64 ti] 3)
            have HO4 := Lib.hid ((owns_below HO2.out hb).alloc (.cells #[.int .i64 ti] 3))
            have HB3 := HB2.out.trans (hb.mono HB2.out.size)
            have HB4 := Lib.hid (HB3.trans (hal.mono HB3.size))
            have HZ4 := Lib.hid HB4.out.size
            have HN4 := Lib.hid (cell_one_at wr (.int .i64 ti) 3)
            have HS63 : Hid ((issN l (p + 1)).length + 1 ≤ maxLen) := Lib.hid (by have := HLk.out; unfold maxLen; omega)
            have HSb : Hid (((issN l (p + 1)).length + 1) * 8 ≤ 140737488355328) := Lib.hid (by have := HLk.out; omega)
            clear hal hb HB3
            go_wp2_with (first | (at_builtin; refine wpList_append_own_at _ rfl _ _ 25 rfl w.heap.size 3 i0 (.int .i64 0) 1 8 Try.underlying25 hi ip0 ip1 ip2 rfl (by decide) _ _ _ rfl HO4.out ⟨wr.heap.size, 0, none⟩ 1 1 [.int .i64 ti] rfl rfl HN4.out (one_int _) HS63.out HSb.out HZ4.out ?_; intro v9 w9 hown9 hgrow9 _ hat9; have HB9 := Lib.hid (HB4.out.grown hgrow9 HB4.out.size (fun g hg => (owns_block HO4.out hg).1)); have HO9 := Lib.hid hown9; clear hown9 hgrow9 hat9))
            go_roundw
            case rel => exact ⟨(p + 1) + 1, by omega, by go_num, by rw [HLs.out, List.length_append, encI_snoc]; exact HO9.out, HB9.out⟩
            case measure => simp [intOf]; omega
    · obtain rfl : k = l.length := by omega
      have HO := Lib.hid ho; have HB := Lib.hid hb
      clear ho hb
      go_wp2_with fail
      go_ret
      obtain ⟨ra, rc, rfl, _, hin⟩ := ints_of_owns HO.out
      exact ⟨⟨ra, rc, rfl, hin⟩, HB.out⟩
end Go.Proofs.Ytccpjfppkahbmaa
