/- The walk of time.listed. -/
import Derived.Test.YtccpjfppkahbmaaU2
namespace Go.Proofs.Ytccpjfppkahbmaa
open Go.RowKit PK Go.Maps

set_option maxRecDepth 100000 in
set_option maxHeartbeats 8000000 in
theorem listed_any (l : List Cd) (a : Option Addr) (cap : Nat) (w : World) (hin : CdsIn w a l) (hlc : l.length ≤ cap) (hl : l.length ≤ 40) (hok : ∀ k, k < l.length → okC (atC l k) = true) :
    Calls Try.prog 65 #[.slice a l.length cap] w (ListedPost l w) := by
  have HI := Lib.hid hin
  have HOk := Lib.hid hok
  have HTab := Lib.hid (table_own l a cap w hin hlc hl hok)
  have HUr := Lib.hid (fun (u : World) (hu : Below w.heap.size w u) => urgency_any l a cap u (hin.below hu) hlc hl hok)
  clear hin hok hlc
  have HMk := Lib.hid (@run_makeMap Try.prog)
  go_enter Try.func65, Try.ntmps65
  go_wp2_with fail
  refine HTab.out.mono ?_; rintro e w2 ⟨⟨qt, rfl, hq1, hq2, htab⟩, hb2⟩
  have HU := Lib.hid (HUr.out w2 hb2)
  have HB2 := Lib.hid hb2; have HTb := Lib.hid htab
  clear hb2 htab HTab HUr
  go_wp2_with fail
  refine HU.out.mono ?_; rintro e w3 ⟨⟨qu, fu, rfl, hq3, hur⟩, hb3⟩
  have HT3 := Lib.hid (HTb.out.below hb3)
  have HB3 := Lib.hid (HB2.out.trans (hb3.mono HB2.out.size))
  have HU3 := Lib.hid hur
  have hs23 := hb3.size
  have hs12 := HB2.out.size
  have hqu := hur.lt
  clear hur hb3 HU HTb
  have hmk := HMk.out
  go_wp2_with fail
  clear hmk
  have HM0 : Hid (MapI (w3.alloc (.map #[] 0)) w3.heap.size 0 (fun _ => none)) := Lib.hid (mapI_made w3)
  have hal1 := (Below.refl w3.heap.size w3).alloc (Nat.le_refl _) (.map #[] 0)
  have hsz1 : (w3.alloc (.map #[] 0)).heap.size = w3.heap.size + 1 := by simp
  have hal2 := (Below.refl (w3.alloc (.map #[] 0)).heap.size (w3.alloc (.map #[] 0))).alloc (Nat.le_refl _) (.cells #[.slice none 0 0] 25)
  have hbx := Boxed.new (w3.alloc (.map #[] 0)) 25 (.slice none 0 0)
  have hsz2 : ((w3.alloc (.map #[] 0)).alloc (.cells #[.slice none 0 0] 25)).heap.size = w3.heap.size + 2 := by simp
  rw [hsz1] at hbx
  have HSt0 : Hid (LstSt l w w3.heap.size qt qu fu [] 0 (fun _ => none) (.slice none 0 0) ((w3.alloc (.map #[] 0)).alloc (.cells #[.slice none 0 0] 25))) := Lib.hid
    { inv := InvS.start l
      box := hbx
      row := owns_nil _ _ _ _
      map := HM0.out.below hal2
      mle := Nat.le_refl _
      small := fun r => ⟨Int.le_refl _, Int.le_refl _⟩
      tab := fun k hk => by
        obtain ⟨a, cap, hc, hi, _⟩ := HT3.out k hk
        refine ⟨a, cap, keep (keep hc hal1) hal2, (hi.below hal1).below hal2, fun j hj => ?_⟩
        obtain ⟨b', off, e, hcj⟩ := hi j hj
        exact ⟨b', off, e, block_lt_of_cell hcj⟩
      qtb := by omega
      qub := by omega
      urg := (HU3.out.below hal1).below hal2
      bw := (HB3.out.trans (hal1.mono (by omega))).trans (hal2.mono (by rw [hsz1]; omega))
      sz := by rw [hsz2]; exact Nat.le_refl _
      lw := by omega }
  have hlt : w.heap.size ≤ w3.heap.size ∧ qt < w3.heap.size ∧ qu < w3.heap.size := ⟨by omega, by omega, by omega⟩
  clear hal1 hal2 hbx hsz1 hsz2 HM0 HT3 HU3 HB3 HB2 hs23 hs12 hqu hq1 hq2 hq3 HMk
  generalize (w3.alloc (.map #[] 0)).alloc (.cells #[.slice none 0 0] 25) = w4 at *
  generalize w3.heap.size = b at *
  go_loopw [7] (fun t wr => ∃ o m f v t0, t = .int .i64 t0 ∧ 0 ≤ t0 ∧ t0 ≤ 13 * (o.length : Int) ∧ LstSt l w b qt qu fu o m f v wr) (fun _ wr => match wr.cell? ⟨b + 1, 0, none⟩ with | some (.slice _ n _) => l.length - n | _ => 0)
  case atStart => exact ⟨[], 0, _, _, 0, rfl, Int.le_refl _, Int.le_refl _, HSt0.out⟩
  case round =>
    obtain ⟨o, m, f, v, t0, rfl, ht0, ht1, hst⟩ := hrel
    obtain ⟨va, vc, rfl, hvc, hvi⟩ := ints_of_owns hst.row
    have d0 := hst.box.cell
    have hln := hst.inv.ln
    have HSt := Lib.hid hst; have HVi := Lib.hid hvi
    by_cases hfull : o.length = l.length
    · obtain ⟨hp, ho⟩ := hst.inv.done hfull
      have HP := Lib.hid hp; have HO := Lib.hid ho
      have hno : ¬ (o.length : Int) < (l.length : Int) := by omega
      clear hst hvi hp ho hln hfull
      go_wp2_with fail
      go_ret
      exact ⟨⟨_, o, rfl, HP.out, HO.out, owns_base HSt.out.row (Nat.le_trans HSt.out.lw (by omega))⟩, HSt.out.bw⟩
    · have hlo : o.length < l.length := by omega
      have hloi : (o.length : Int) < (l.length : Int) := by omega
      clear hst hvi hfull
      go_wp2_with fail
      go_loopw [8, 9, 32] (fun best soon i ws => ∃ k : Nat, k ≤ l.length ∧ i = .int .i64 k ∧ PickSt l o k best soon ∧ Below wr.heap.size wr ws) (fun _ _ i _ => l.length - (intOf i).toNat)
      case atStart => exact ⟨0, Nat.zero_le _, rfl, ⟨0, rfl, Int.le_refl _, by omega, .inl ⟨rfl, fun j hj => absurd hj (Nat.not_lt_zero _)⟩⟩, Below.refl _ _⟩
      case round =>
        obtain ⟨k, hk, rfl, ⟨s, rfl, hs0, hs1, hbest⟩, hb⟩ := hrel
        have HB := Lib.hid hb
        have HSt2 := Lib.hid (HSt.out.below hb)
        have HBest := Lib.hid hbest
        clear hb hbest
        by_cases hkl : k < l.length
        · have hki : (k : Int) < (l.length : Int) := by omega
          have hk0 : (0 : Int) ≤ (k : Int) := by omega
          obtain ⟨bb, off, rfl, hc⟩ := HI.out.below HSt2.out.bw k hkl
          have hokk := HOk.out k hkl
          have HOb := Lib.hid (openB_any l o k)
          have HUs := Lib.hid (uses_own hokk)
          have HReg := Lib.hid (usesL_reg hokk)
          have hul := usesL_len (atC l k)
          have HTn := Lib.hid (tabN_len l k k)
          clear hokk d0
          generalize atC l k = x at *
          generalize usesL x = us at *
          obtain ⟨x0, x1, x2, x3, x4, x5⟩ := x
          obtain ⟨c0, c1, c2, c3, c4, c5⟩ := hc
          simp only at c0 c1 c2 c3 c4 c5
          have HUs : Hid (∀ w : World, Calls Try.prog 61 #[.agg #[.int .i64 x0, .int .i64 x1, .int .i64 x2, .int .i64 x3, .int .u32 x4, .int .i64 x5]] w fun e w' => (∃ v, e = .returned v ∧ w'.ownsRow w.heap.size 3 1 v us.length (PK.encI us)) ∧ Below w.heap.size w w') := HUs
          have HX := Lib.hid (cdAt_new wr ⟨x0, x1, x2, x3, x4, x5⟩ 42)
          have HX : Hid (CdAt (wr.alloc (.cells #[.int .i64 x0, .int .i64 x1, .int .i64 x2, .int .i64 x3, .int .u32 x4, .int .i64 x5] 42)) wr.heap.size 0 ⟨x0, x1, x2, x3, x4, x5⟩) := HX
          have hal := (Below.refl wr.heap.size wr).alloc (Nat.le_refl _) (.cells #[.int .i64 x0, .int .i64 x1, .int .i64 x2, .int .i64 x3, .int .u32 x4, .int .i64 x5] 42)
          have HSt3 := Lib.hid (HSt2.out.below hal)
          have HB3 := Lib.hid (HB.out.trans (hal.mono HB.out.size))
          clear hal HSt2 HB
          go_upto_region 11 with (fail)
          generalize wr.alloc (.cells #[.int .i64 x0, .int .i64 x1, .int .i64 x2, .int .i64 x3, .int .u32 x4, .int .i64 x5] 42) = w5 at *
          generalize wr.heap.size = qx at *
          clear c0 c1 c2 c3 c4 c5
          have d0 := HSt3.out.box.cell
          obtain ⟨_, _, hve, _, hv3⟩ := ints_of_owns HSt3.out.row
          simp only [Value.slice.injEq, true_and] at hve
          obtain ⟨rfl, rfl⟩ := hve
          obtain ⟨ra, rc, hrc, hri, _⟩ := HSt3.out.tab k hkl
          replace hrc : w5.cell? ⟨qt, k, none⟩ = some (.slice ra (tabN l k k).length rc) := hrc
          have HCt := Lib.hid (fun r hr => contains_is (r := r) (x := (k : Int)) hr hv3 (cap := vc) (by omega))
          have HCf := Lib.hid (conI_any 99 #[.pointer (some ⟨b + 1, 0, none⟩)] (fun _ _ => rfl) (fun i => !o.contains i) (tabN l k k) ra rc w5 hri (by have := HTn.out; omega) (fun j W' _ hb => notIn2_any (b + 1) o va vc _ W' (keep d0 hb) (hv3.below hb) (by omega)))
          clear hv3 hri
          generalize hob : openB l o k = ob at *
          have HOe := Lib.hid hob; clear hob
          generalize (tabN l k k).any (fun i => !o.contains i) = b1 at *
          generalize (tabN l k k).length = tn at *
          generalize hb2 : o.contains (k : Int) = b2 at *
          have HCt := Lib.hid (HCt.out b2 rfl)
          clear hb2
          cases b2
          · go_wp2_with fail
            refine HCt.out.mono ?_; rintro e w6 ⟨rfl, rfl⟩
            go_wp2_with fail
            refine HCf.out.mono ?_; rintro e w6 ⟨rfl, hb6⟩
            have HSt6 := Lib.hid (HSt3.out.below hb6)
            have HX6 := Lib.hid (HX.out.keep hb6)
            have HB6 := Lib.hid (HB3.out.trans (hb6.mono HB3.out.size))
            clear hb6 HCt HCf HSt3 HX HB3 d0 hrc
            cases b1
            · have hobt : ob = true := by rw [HOb.out]; rfl
              subst hobt
              obtain ⟨e0, e1, e2, e3, e4, e5⟩ := cell_six_in HX6.out
              simp only at e0 e1 e2 e3 e4 e5
              go_wp2_with fail
              refine (HUs.out _).mono ?_; rintro e w7 ⟨⟨v7, rfl, ho7⟩, hb7⟩
              obtain ⟨ua, uc, rfl, _, hu7⟩ := ints_of_owns ho7
              have HU7 := Lib.hid hu7
              have HSt7 := Lib.hid (HSt6.out.below hb7)
              have HB7 := Lib.hid (HB6.out.trans (hb7.mono HB6.out.size))
              clear ho7 hu7 hb7 HUs HSt6 HB6 HX6 e0 e1 e2 e3 e4 e5
              have hsm := HSt7.out.small
              have HSm := Lib.hid hsm
              clear hsm
              go_wp2_with fail
              go_loopw [12, 52] (fun t i ws => ∃ mm : Nat, mm ≤ us.length ∧ i = .int .i64 mm ∧ t = .int .i64 (foldT f (us.take mm) t0) ∧ Below w7.heap.size w7 ws) (fun _ i _ => us.length - (intOf i).toNat)
              case atStart => exact ⟨0, Nat.zero_le _, rfl, rfl, Below.refl _ _⟩
              case round =>
                obtain ⟨mm, hmm, rfl, rfl, hb⟩ := hrel
                by_cases hml : mm < us.length
                · obtain ⟨bu, offu, rfl, cu⟩ := HU7.out.below hb mm hml
                  obtain ⟨D, hown, hmf⟩ := HSt7.out.map.below hb
                  have hmle := HSt7.out.mle
                  have HT := Lib.hid (foldT_take f us t0 hml)
                  have hrg := HReg.out (us.getD mm 0) (by rw [List.getD_eq_getElem?_getD, List.getElem?_eq_getElem hml]; exact List.getElem_mem hml)
                  have hfs := foldT_small (f := f) (m := 13 * (o.length : Int)) (fun r => (HSm.out r).2) (rs := us.take mm) ht0 ht1
                  have HV := Lib.hid (hmf.val (us.getD mm 0) 0)
                  have HOw := Lib.hid hown
                  have HB8 := Lib.hid hb
                  clear hb hown hmf
                  generalize us.getD mm 0 = r at *
                  generalize foldT f (us.take mm) t0 = tm at *
                  have hfr := HSm.out r
                  go_wp2_with (first | (at_lookup; refine wpList_lookup_own_int _ rfl _ _ 80 rfl 3 3 .i64 intLaw Try.underlying80 Try.underlying3 (zeroInt _) b m D rfl HOw.out _ _ rfl (key_int (by omega) (by omega)) ?_; intro c hat hwc; rw [HV.out] at hat; simp only [DataW.lit.injEq, Lit.int.injEq, true_and] at hat; have HC := Lib.hid hat; clear hat hwc))
                  go_roundw
                  case rel => exact ⟨mm + 1, by omega, by go_num, by rw [HT.out, HC.out], HB8.out⟩
                  case measure => simp [intOf]; omega
                · obtain rfl : mm = us.length := by omega
                  rw [List.take_length]
                  have hfs := foldT_small (f := f) (m := 13 * (o.length : Int)) (fun r => (HSm.out r).2) (rs := us) ht0 ht1
                  have HB8 := Lib.hid (HB7.out.trans (hb.mono HB7.out.size))
                  have HSt8 := Lib.hid (HSt7.out.below hb)
                  clear hb HB7 HSt7
                  generalize foldT f us t0 = wh at *
                  have HTake : Hid (PickSt l o (k + 1) (.int .i64 (k : Int)) (.int .i64 wh)) := Lib.hid ⟨wh, rfl, hfs.1, hfs.2, .inr ⟨k, rfl, hkl, HOe.out⟩⟩
                  rcases HBest.out with ⟨rfl, _⟩ | ⟨bq, rfl, hbq, hobq⟩
                  · go_wp2_with fail
                    go_quiet (fail)
                    go_wp2_with fail
                    go_roundw
                    case rel => exact ⟨k + 1, by omega, by go_num, HTake.out, below_drewN HB8.out _⟩
                    case measure => simp [intOf]; omega
                  · have HSkip : Hid (PickSt l o (k + 1) (.int .i64 (bq : Int)) (.int .i64 s)) := Lib.hid ⟨s, rfl, hs0, hs1, .inr ⟨bq, rfl, hbq, hobq⟩⟩
                    have hbi : (bq : Int) < (l.length : Int) := by omega
                    have hb0 : (0 : Int) ≤ (bq : Int) := by omega
                    have hbn : decide ((bq : Int) < 0) = false := by simp
                    have hbn2 : ¬ (bq : Int) < 0 := by omega
                    go_wp2_with fail
                    by_cases h1 : wh < s
                    · have h1d : decide (wh < s) = true := decide_eq_true h1
                      go_quiet (fail)
                      go_wp2_with fail
                      go_roundw
                      case rel => exact ⟨k + 1, by omega, by go_num, HTake.out, below_drewN HB8.out _⟩
                      case measure => simp [intOf]; omega
                    · have h1d : decide (wh < s) = false := decide_eq_false h1
                      by_cases h2 : wh = s
                      · have h2d : (wh == s) = true := by rw [h2]; simp
                        have h2e : decide (wh = s) = true := decide_eq_true h2
                        have u1 := HSt8.out.urg.cell hkl
                        have u2 := HSt8.out.urg.cell hbq
                        clear h2
                        generalize fu k = uk at *
                        generalize fu bq = ub at *
                        by_cases h3 : ub < uk
                        · have h3d : decide (ub < uk) = true := decide_eq_true h3
                          go_quiet (fail)
                          go_wp2_with fail
                          go_roundw
                          case rel => exact ⟨k + 1, by omega, by go_num, HTake.out, below_drewN HB8.out _⟩
                          case measure => simp [intOf]; omega
                        · have h3d : decide (ub < uk) = false := decide_eq_false h3
                          go_quiet (fail)
                          go_wp2_with fail
                          go_roundw
                          case rel => exact ⟨k + 1, by omega, by go_num, HSkip.out, below_drewN HB8.out _⟩
                          case measure => simp [intOf]; omega
                      · have h2d : (wh == s) = false := by rw [beq_eq_false_iff_ne]; exact h2
                        have h2e : decide (wh = s) = false := decide_eq_false h2
                        go_quiet (fail)
                        go_wp2_with fail
                        go_roundw
                        case rel => exact ⟨k + 1, by omega, by go_num, HSkip.out, below_drewN HB8.out _⟩
                        case measure => simp [intOf]; omega
            · have hobf : ob = false := by rw [HOb.out]; rfl
              subst hobf
              go_wp2_with fail
              go_roundw
              case rel => exact ⟨k + 1, by omega, by go_num, ⟨s, rfl, hs0, hs1, HBest.out.imp (fun h => ⟨h.1, fun j hj => by
                by_cases e : j = k
                · rw [e]; exact HOe.out
                · exact h.2 j (by omega)⟩) id⟩, HB6.out⟩
              case measure => simp [intOf]; omega
          · have hobf : ob = false := by rw [HOb.out]; simp
            subst hobf
            go_wp2_with fail
            refine HCt.out.mono ?_; rintro e w6 ⟨rfl, rfl⟩
            go_wp2_with fail
            go_roundw
            case rel => exact ⟨k + 1, by omega, by go_num, ⟨s, rfl, hs0, hs1, HBest.out.imp (fun h => ⟨h.1, fun j hj => by
              by_cases e : j = k
              · rw [e]; exact HOe.out
              · exact h.2 j (by omega)⟩) id⟩, HB3.out⟩
            case measure => simp [intOf]; omega
        · obtain rfl : k = l.length := by omega
          rcases HBest.out with ⟨_, hno⟩ | ⟨bq, rfl, hbq, hobq⟩
          · exfalso
            obtain ⟨j, hj, hjo⟩ := HSt2.out.inv.goes hlo
            rw [hno j hj] at hjo
            cases hjo
          · have hbi : (bq : Int) < (l.length : Int) := by omega
            have hb0 : (0 : Int) ≤ (bq : Int) := by omega
            have d0 := HSt2.out.box.cell
            have HPush := Lib.hid (fun v9 w9 h1 h2 => HSt2.out.push (v9 := v9) (w9 := w9) hbq hobq h1 h2)
            have HCd := Lib.hid (fun (u : World) (hu : Below w.heap.size w u) => HI.out.below hu bq hbq)
            have hokk := HOk.out bq hbq
            have hdd := okC_d hokk
            have HD := Lib.hid (fun b (h : fD (atC l bq).op = b) u => Defines_ok hokk h u)
            have HN6 := Lib.hid (cell_one_at wr (.int .i64 (bq : Int)) 3)
            have HO6 := Lib.hid (HSt2.out.row.alloc (.cells #[.int .i64 (bq : Int)] 3))
            have hsz2 := HSt2.out.sz
            have HZ6 : Hid (b + 2 ≤ (wr.alloc (.cells #[.int .i64 (bq : Int)] 3)).heap.size) := Lib.hid (by simp; omega)
            have HS63 : Hid (o.length + 1 ≤ maxLen) := Lib.hid (by unfold maxLen; omega)
            have HSb : Hid ((o.length + 1) * 8 ≤ 140737488355328) := Lib.hid (by omega)
            obtain ⟨i0, hi, ip0, ip1, ip2⟩ := info_parts Try.infoInt
            have HLat := Lib.hid (tLat_any (atC l bq).op)
            have hls := lat_small (atC l bq).op
            clear hokk HBest
            generalize atC l bq = x at *
            obtain ⟨x0, x1, x2, x3, x4, x5⟩ := x
            simp only at hdd HD HLat hls
            have HD : Hid (∀ b, fD x0 = b → ∀ u : World, Calls Try.prog 62 #[.agg #[.int .i64 x0, .int .i64 x1, .int .i64 x2, .int .i64 x3, .int .u32 x4, .int .i64 x5]] u fun e w' => e = .returned (.tuple #[.int .i64 x1, .bool b, .int .i64 0]) ∧ Below u.heap.size u w') := HD
            generalize hlv : lat x0 = lv at *
            have HLv := Lib.hid hlv; clear hlv
            go_wp2_with (first | (at_builtin; refine wpList_append_own_at _ rfl _ _ 25 rfl (b + 2) 3 i0 (.int .i64 0) 1 8 Try.underlying25 hi ip0 ip1 ip2 rfl (by decide) _ _ _ rfl HO6.out ⟨wr.heap.size, 0, none⟩ 1 1 [.int .i64 (bq : Int)] rfl rfl HN6.out (one_int _) HS63.out HSb.out HZ6.out ?_; intro v9 w9 hown9 hgrow9 _ _; obtain ⟨g9, c9, rfl⟩ := ownsRow_succ hown9; obtain ⟨hbx9, hst9⟩ := HPush.out _ _ hown9 hgrow9; have HSt9 := Lib.hid hst9; have e9 := hbx9.cell; have f9 := hbx9.frozen; obtain ⟨bb, off, rfl, hc9⟩ := HCd.out _ hst9.bw; obtain ⟨c0, c1, c2, c3, c4, c5⟩ := hc9; simp only at c0 c1 c2 c3 c4 c5; clear hown9 hgrow9 hbx9 hst9))
            cases hfd : fD x0
            · have HDk := Lib.hid (HD.out false hfd)
              clear HD hfd
              refine (HDk.out _).mono ?_; rintro e w11 ⟨rfl, hb11⟩
              have HSt11 := Lib.hid (HSt9.out.below hb11)
              clear hb11 c0 c1 c2 c3 c4 c5 e9 f9
              go_wp2_with fail
              go_roundw
              case rel => exact ⟨o ++ [(bq : Int)], m, f, _, s + 1, by go_num, by omega, by rw [List.length_append, List.length_singleton]; omega, HSt11.out⟩
              case measure =>
                rw [HSt11.out.box.cell, HSt.out.box.cell]
                simp only
                omega
            · have HDk := Lib.hid (HD.out true hfd)
              clear HD hfd
              refine (HDk.out _).mono ?_; rintro e w11 ⟨rfl, hb11⟩
              have HSt11 := Lib.hid (HSt9.out.below hb11)
              have c0 := keep c0 hb11
              obtain ⟨D, hown, hmf⟩ := HSt11.out.map
              have hmle := HSt11.out.mle
              rw [List.length_append, List.length_singleton] at hmle
              have HOw := Lib.hid hown; have HMf := Lib.hid hmf
              clear hb11 c1 c2 c3 c4 c5 e9 f9 hown hmf
              go_wp2_with (first | (go_at_call 43; refine (HLat.out _).mono ?_; rintro e w12 ⟨rfl, rfl⟩; rw [HLv.out]) | (at_mapUpdate; refine wpList_mapUpdate_in _ rfl _ _ _ 80 rfl 3 3 intLaw Try.underlying80 _ b m D rfl HOw.out (by unfold maxLen; omega) _ _ _ rfl rfl (key_int (by omega) (by omega)) _ [] (plainElem_int Try.underlying3 (wf_int (by omega) (by omega))) ?_; intro w13 hown13 hturn13; have HM13 : Hid (MapI w13 b (m + 1) (putI f x1 (s + lv))) := Lib.hid ⟨_, hown13, HMf.out.put x1 (s + lv)⟩; have HG13 := Lib.hid hturn13; clear hown13 hturn13))
              have HSt13 := Lib.hid (HSt11.out.mapped HM13.out HG13.out (by rw [List.length_append, List.length_singleton]; have := HSt2.out.mle; omega) (by omega) (by rw [List.length_append, List.length_singleton]; omega))
              go_roundw
              case rel => exact ⟨o ++ [(bq : Int)], m + 1, _, _, s + 1, by go_num, by omega, by rw [List.length_append, List.length_singleton]; omega, HSt13.out⟩
              case measure =>
                rw [HSt13.out.box.cell, HSt.out.box.cell]
                simp only
                omega
end Go.Proofs.Ytccpjfppkahbmaa
