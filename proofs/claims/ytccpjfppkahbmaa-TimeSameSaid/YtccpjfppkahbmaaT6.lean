/- The walk of time.issue. -/
import Derived.Test.YtccpjfppkahbmaaT5
import Derived.Test.YtccpjfppkahbmaaKM
namespace Go.Proofs.Ytccpjfppkahbmaa
open Go.RowKit PK Go.Maps

theorem owns_kept_map {w w' : World} {B b s n : Nat} {e : TypeId} {v : Value} {xs : List Value} (h : w.ownsRow B e s v n xs) (hg : w.grownBy w' (some b)) (hb : b < B) : w'.ownsRow B e s v n xs :=
  owns_of_block h fun g h1 h2 _ => hg.block g h2 (by simp only [ne_eq, Option.some.injEq]; omega)
theorem cell_kept {w w' : World} {b off : Nat} {v : Value} {row : Option Nat} (h : w.cell? ⟨b, off, none⟩ = some v) (hg : w.grownBy w' row) (hne : some b ≠ row) : w'.cell? ⟨b, off, none⟩ = some v := by
  have e := hg.block b (block_lt_of_cell h) hne
  unfold World.cell? at *
  rw [e]; exact h
theorem cd_kept {w w' : World} {b off : Nat} {x : Cd} {row : Option Nat} (h : CdAt w b off x) (hg : w.grownBy w' row) (hne : some b ≠ row) : CdAt w' b off x :=
  ⟨cell_kept h.c0 hg hne, cell_kept h.c1 hg hne, cell_kept h.c2 hg hne, cell_kept h.c3 hg hne, cell_kept h.c4 hg hne, cell_kept h.c5 hg hne⟩
theorem putT_putI (f : Int → Option Int) (k y : Int) : putT f k y = putI f k y := rfl
set_option maxRecDepth 100000 in
set_option maxHeartbeats 4000000 in
theorem issue_any (l : List Cd) (a : Option Addr) (cap : Nat) (w : World) (hin : CdsIn w a l) (hl : l.length ≤ 40) (hok : ∀ k, k < l.length → okC (atC l k) = true) :
    Calls Try.prog 39 #[.slice a l.length cap] w (RdPost (issN l l.length) w) := by
  have HI := Lib.hid hin
  have HOk := Lib.hid hok
  clear hin hok
  have HMk := Lib.hid (@run_makeMap Try.prog)
  have HB0 := Lib.hid ((Below.refl w.heap.size w).alloc (Nat.le_refl _) (.map #[] 0))
  have HM0 : Hid (MapI (w.alloc (.map #[] 0)) w.heap.size 0 (rdyF l (issN l 0) 0)) := Lib.hid (mapI_made w)
  have HO0 : Hid ((w.alloc (.map #[] 0)).ownsRow (w.heap.size + 1) 3 1 (.slice none 0 0) (issN l 0).length (PK.encI (issN l 0))) := Lib.hid (owns_nil _ _ _ _)
  have hsz : (w.alloc (.map #[] 0)).heap.size = w.heap.size + 1 := by simp
  have HSz := Lib.hid hsz; clear hsz
  have hmk := HMk.out
  go_enter Try.func39, Try.ntmps39
  go_wp2_with fail
  generalize w.alloc (.map #[] 0) = w0 at *
  generalize hb : w.heap.size = b
  have HBq : Hid (w.heap.size = b) := Lib.hid hb
  rw [hb] at HM0 HO0 HSz
  clear hb hmk
  obtain ⟨i0, hi, ip0, ip1, ip2⟩ := info_parts Try.infoInt
  go_loopw [4, 5, 16] (fun v t i wr => ∃ k n : Nat, k ≤ l.length ∧ n ≤ k ∧ i = .int .i64 k ∧ t = .int .i64 (startT (issN l k) k) ∧ wr.ownsRow (b + 1) 3 1 v (issN l k).length (PK.encI (issN l k)) ∧ MapI wr b n (rdyF l (issN l k) k) ∧ Below w.heap.size w wr ∧ b + 1 ≤ wr.heap.size) (fun _ _ i _ => l.length - (intOf i).toNat)
  case atStart => exact ⟨0, 0, Nat.zero_le _, Nat.zero_le _, rfl, rfl, HO0.out, HM0.out, HB0.out, Nat.le_of_eq HSz.out.symm⟩
  case round =>
    obtain ⟨k, n, hk, hnk, rfl, rfl, ho, hm, hb, hsz⟩ := hrel
    by_cases hlt : k < l.length
    · obtain ⟨bb, off, rfl, hc⟩ := HI.out.below hb k hlt
      have HO := Lib.hid ho; have HM := Lib.hid hm; have HB := Lib.hid hb; have HZ := Lib.hid hsz
      have hokk := HOk.out k hlt
      have HStep := Lib.hid (rdyF_step l k)
      have HSm := Lib.hid (rdyF_small l k)
      have hst := startT_small l k
      have HIs : Hid (issAt l (issN l k) k = foldT (rdyF l (issN l k) k) (usesL (atC l k)) (startT (issN l k) k)) := Lib.hid rfl
      have HLs : Hid (issN l (k + 1) = issN l k ++ [issAt l (issN l k) k]) := Lib.hid rfl
      have HStart : Hid (startT (issN l (k + 1)) (k + 1) = issAt l (issN l k) k + 1) := Lib.hid (by
        unfold startT
        rw [if_neg (Nat.succ_ne_zero k), Nat.add_sub_cancel, issN_new])
      have HU := Lib.hid (uses_ok hokk)
      have HReg := Lib.hid (usesL_reg hokk)
      have hdd := okC_d hokk
      have HD := Lib.hid (fun b (h : fD (atC l k).op = b) u => Defines_ok hokk h u)
      have hul := usesL_len (atC l k)
      have hlk := issN_len l k
      clear ho hm hb hsz hokk
      generalize atC l k = x at *
      generalize usesL x = us at *
      generalize issN l k = ts at *
      generalize hts1 : issN l (k + 1) = ts1 at *
      have HTs := Lib.hid hts1; clear hts1
      generalize rdyF l ts k = f at *
      generalize startT ts k = t0 at *
      generalize issAt l ts k = ti at *
      obtain ⟨x0, x1, x2, x3, x4, x5⟩ := x
      obtain ⟨c0, c1, c2, c3, c4, c5⟩ := hc
      simp only at c0 c1 c2 c3 c4 c5 hdd HStep
      have HU : Hid (∀ w : World, Calls Try.prog 61 #[.agg #[.int .i64 x0, .int .i64 x1, .int .i64 x2, .int .i64 x3, .int .u32 x4, .int .i64 x5]] w (RdPost us w)) := HU
      have HD : Hid (∀ b, fD x0 = b → ∀ u : World, Calls Try.prog 62 #[.agg #[.int .i64 x0, .int .i64 x1, .int .i64 x2, .int .i64 x3, .int .u32 x4, .int .i64 x5]] u fun e w' => e = .returned (.tuple #[.int .i64 x1, .bool b, .int .i64 0]) ∧ Below u.heap.size u w') := HD
      go_wp2_with fail
      have HX := Lib.hid (cdAt_new wr ⟨x0, x1, x2, x3, x4, x5⟩ 42)
      have hal := (Below.refl wr.heap.size wr).alloc (Nat.le_refl _) (.cells #[.int .i64 x0, .int .i64 x1, .int .i64 x2, .int .i64 x3, .int .u32 x4, .int .i64 x5] 42)
      have HM1 := Lib.hid (HM.out.below hal)
      have HO1 := Lib.hid (owns_below HO.out hal)
      have HB1 := Lib.hid (HB.out.trans (hal.mono HB.out.size))
      have HG := Lib.hid (fun g hg => owns_block HO.out (g := g) hg)
      have HZ1 := Lib.hid (Nat.le_trans HZ.out hal.size)
      have HX : Hid (CdAt (wr.alloc (.cells #[.int .i64 x0, .int .i64 x1, .int .i64 x2, .int .i64 x3, .int .u32 x4, .int .i64 x5] 42)) wr.heap.size 0 ⟨x0, x1, x2, x3, x4, x5⟩) := HX
      clear hal c0 c1 c2 c3 c4 c5 HM HO HZ HB
      generalize wr.alloc (.cells #[.int .i64 x0, .int .i64 x1, .int .i64 x2, .int .i64 x3, .int .u32 x4, .int .i64 x5] 42) = w1 at *
      generalize wr.heap.size = qx at *
      refine (HU.out _).mono ?_; rintro e w2 ⟨⟨ua, uc, rfl, hui⟩, hb2⟩
      have HX2 := Lib.hid (HX.out.keep hb2)
      have HM2 := Lib.hid (HM1.out.below hb2)
      have HO2 := Lib.hid (owns_below HO1.out hb2)
      have HB2 := Lib.hid (HB1.out.trans (hb2.mono HB1.out.size))
      have HZ2 := Lib.hid (Nat.le_trans HZ1.out hb2.size)
      have HUi := Lib.hid hui
      clear hb2 hui HX HM1 HO1 HB1 HZ1 HU
      go_wp2_with fail
      go_loopw [5, 23] (fun t i wr2 => ∃ m : Nat, m ≤ us.length ∧ i = .int .i64 m ∧ t = .int .i64 (foldT f (us.take m) t0) ∧ Below w2.heap.size w2 wr2) (fun _ i _ => us.length - (intOf i).toNat)
      case atStart => exact ⟨0, Nat.zero_le _, rfl, rfl, Below.refl _ _⟩
      case round =>
        obtain ⟨m, hm, rfl, rfl, hb⟩ := hrel
        by_cases hml : m < us.length
        · obtain ⟨bu, offu, rfl, cu⟩ := HUi.out.below hb m hml
          obtain ⟨D, hown, hmf⟩ := HM2.out.below hb
          have HT := Lib.hid (foldT_take f us t0 hml)
          have hrg := HReg.out (us.getD m 0) (by rw [List.getD_eq_getElem?_getD, List.getElem?_eq_getElem hml]; exact List.getElem_mem hml)
          have hfs := foldT_small (f := f) (m := 13 * (k : Int)) (fun r => (HSm.out r).2) (rs := us.take m) hst.1 hst.2
          have HV := Lib.hid (hmf.val (us.getD m 0) 0)
          have HOw := Lib.hid hown
          have HB3 := Lib.hid hb
          clear hb hown hmf
          generalize us.getD m 0 = r at *
          generalize foldT f (us.take m) t0 = tm at *
          have hfr := HSm.out r
          go_wp2_with (first | (at_lookup; refine wpList_lookup_own_int _ rfl _ _ 80 rfl 3 3 .i64 intLaw Try.underlying80 Try.underlying3 (zeroInt _) b n D rfl HOw.out _ _ rfl (key_int (by omega) (by omega)) ?_; intro c hat hwc; rw [HV.out] at hat; simp only [DataW.lit.injEq, Lit.int.injEq, true_and] at hat; have HC := Lib.hid hat; clear hat hwc))
          go_roundw
          case rel => exact ⟨m + 1, by omega, by go_num, by rw [HT.out, HC.out], HB3.out⟩
          case measure => simp [intOf]; omega
        · obtain rfl : m = us.length := by omega
          rw [List.take_length, ← HIs.out]
          have hti : 0 ≤ ti ∧ ti ≤ 13 * (k : Int) := by rw [HIs.out]; exact foldT_small (fun r => (HSm.out r).2) hst.1 hst.2
          have HX3 := Lib.hid (HX2.out.keep hb)
          have HM3 := Lib.hid (HM2.out.below hb)
          have HO3 := Lib.hid (owns_below HO2.out hb)
          have HB3 := Lib.hid (HB2.out.trans (hb.mono HB2.out.size))
          have HZ3 := Lib.hid (Nat.le_trans HZ2.out hb.size)
          clear hb HX2 HM2 HO2 HB2 HZ2
          have hal := (Below.refl wr.heap.size wr).alloc (Nat.le_refl _) (.cells #[.int .i64 ti] 3)
          have HX4 := Lib.hid (HX3.out.keep hal)
          have HM4 := Lib.hid (HM3.out.below hal)
          have HO4 := Lib.hid (HO3.out.alloc (.cells #[.int .i64 ti] 3))
          have HB4 := Lib.hid (HB3.out.trans (hal.mono HB3.out.size))
          have HZ4 := Lib.hid (Nat.le_trans HZ3.out hal.size)
          have HN4 := Lib.hid (cell_one_at wr (.int .i64 ti) 3)
          have HS63 : Hid (ts.length + 1 ≤ maxLen) := Lib.hid (by unfold maxLen; omega)
          have HSb : Hid ((ts.length + 1) * 8 ≤ 140737488355328) := Lib.hid (by omega)
          clear hal HX3 HM3 HO3 HB3 HZ3
          cases hfd : fD x0
          · have HDk := Lib.hid (HD.out false hfd)
            rw [hfd] at HStep
            have HSt : Hid (rdyF l ts1 (k + 1) = f) := Lib.hid (by rw [HStep.out]; rfl)
            clear HStep hfd HD
            go_wp2_with (first | (at_builtin; refine wpList_append_own_at _ rfl _ _ 25 rfl (b + 1) 3 i0 (.int .i64 0) 1 8 Try.underlying25 hi ip0 ip1 ip2 rfl (by decide) _ _ _ rfl HO4.out ⟨wr.heap.size, 0, none⟩ 1 1 [.int .i64 ti] rfl rfl HN4.out (one_int _) HS63.out HSb.out HZ4.out ?_; intro v9 w9 hown9 hgrow9 _ hat9; have HX9 := Lib.hid (cd_kept HX4.out hgrow9 (fun e => absurd (HG.out _ e.symm).2 (Nat.lt_irrefl _))); have HM9 := Lib.hid (HM4.out.kept hgrow9 (fun e => by have := (HG.out _ e.symm).1; omega)); have HB9 := Lib.hid (HB4.out.grown hgrow9 HB4.out.size (fun g hg => by have := (HG.out _ hg).1; rw [HBq.out]; omega)); have HZ9 := Lib.hid (Nat.le_trans HZ4.out hgrow9.size); have HO9 := Lib.hid hown9; have c0 := HX9.out.c0; have c1 := HX9.out.c1; have c2 := HX9.out.c2; have c3 := HX9.out.c3; have c4 := HX9.out.c4; have c5 := HX9.out.c5; simp only at c0 c1 c2 c3 c4 c5; clear hown9 hgrow9 hat9))
            refine (HDk.out _).mono ?_; rintro e w10 ⟨rfl, hb10⟩
            have HB10 := Lib.hid (HB9.out.trans (hb10.mono HB9.out.size))
            have HM10 := Lib.hid (HM9.out.below hb10)
            have HO10 := Lib.hid (owns_below HO9.out hb10)
            have HZ10 := Lib.hid (Nat.le_trans HZ9.out hb10.size)
            clear hb10 c0 c1 c2 c3 c4 c5
            go_wp2_with fail
            go_roundw
            case rel => exact ⟨k + 1, n, by omega, by omega, by go_num, by rw [HTs.out, HStart.out], by rw [HTs.out, HLs.out, List.length_append, encI_snoc]; exact HO10.out, by rw [HTs.out, HSt.out]; exact HM10.out, HB10.out, HZ10.out⟩
            case measure => simp [intOf]; omega
          · have HDk := Lib.hid (HD.out true hfd)
            rw [hfd] at HStep
            have HSt : Hid (rdyF l ts1 (k + 1) = putI f x1 (ti + lat x0)) := Lib.hid (by rw [HStep.out]; rfl)
            have HLat := Lib.hid (tLat_any x0)
            have hls := lat_small x0
            clear HStep hfd HD
            generalize hlv : lat x0 = lv at *
            have HLv := Lib.hid hlv; clear hlv
            go_wp2_with (first | (at_builtin; refine wpList_append_own_at _ rfl _ _ 25 rfl (b + 1) 3 i0 (.int .i64 0) 1 8 Try.underlying25 hi ip0 ip1 ip2 rfl (by decide) _ _ _ rfl HO4.out ⟨wr.heap.size, 0, none⟩ 1 1 [.int .i64 ti] rfl rfl HN4.out (one_int _) HS63.out HSb.out HZ4.out ?_; intro v9 w9 hown9 hgrow9 _ hat9; have HX9 := Lib.hid (cd_kept HX4.out hgrow9 (fun e => absurd (HG.out _ e.symm).2 (Nat.lt_irrefl _))); have HM9 := Lib.hid (HM4.out.kept hgrow9 (fun e => by have := (HG.out _ e.symm).1; omega)); have HB9 := Lib.hid (HB4.out.grown hgrow9 HB4.out.size (fun g hg => by have := (HG.out _ hg).1; rw [HBq.out]; omega)); have HZ9 := Lib.hid (Nat.le_trans HZ4.out hgrow9.size); have HO9 := Lib.hid hown9; have c0 := HX9.out.c0; have c1 := HX9.out.c1; have c2 := HX9.out.c2; have c3 := HX9.out.c3; have c4 := HX9.out.c4; have c5 := HX9.out.c5; simp only at c0 c1 c2 c3 c4 c5; clear hown9 hgrow9 hat9))
            refine (HDk.out _).mono ?_; rintro e w10 ⟨rfl, hb10⟩
            have HB10 := Lib.hid (HB9.out.trans (hb10.mono HB9.out.size))
            have HM10 := HM9.out.below hb10
            have HO10 := Lib.hid (owns_below HO9.out hb10)
            have HZ10 := Lib.hid (Nat.le_trans HZ9.out hb10.size)
            obtain ⟨D, hown, hmf⟩ := HM10
            have HOw := Lib.hid hown; have HMf := Lib.hid hmf
            have c0 := (HX9.out.keep hb10).c0
            simp only at c0
            clear hb10 c1 c2 c3 c4 c5 hown hmf
            have hwb : w.heap.size ≤ b := by rw [HBq.out]; exact Nat.le_refl _
            go_wp2_with (first | (go_at_call 43; refine (HLat.out _).mono ?_; rintro e w11 ⟨rfl, rfl⟩; rw [HLv.out]) | (at_mapUpdate; refine wpList_mapUpdate_in _ rfl _ _ _ 80 rfl 3 3 intLaw Try.underlying80 _ b n D rfl HOw.out (by unfold maxLen; omega) _ _ _ rfl rfl (key_int (by omega) (by omega)) _ [] (plainElem_int Try.underlying3 (wf_int (by omega) (by omega))) ?_; intro w12 hown12 hturn12; have HM12 : Hid (MapI w12 b (n + 1) (putI f x1 (ti + lv))) := Lib.hid ⟨_, hown12, HMf.out.put x1 (ti + lv)⟩; have HO12 := Lib.hid (owns_kept_map HO10.out hturn12.grown (Nat.lt_succ_self b)); have HB12 := Lib.hid (turned_below HB10.out hturn12 (Nat.le_refl _) hwb); have HZ12 := Lib.hid (Nat.le_trans HZ10.out hturn12.grown.size); clear hown12 hturn12))
            go_roundw
            case rel => exact ⟨k + 1, n + 1, by omega, by omega, by go_num, by rw [HTs.out, HStart.out], by rw [HTs.out, HLs.out, List.length_append, encI_snoc]; exact HO12.out, by rw [HTs.out, HSt.out]; exact HM12.out, HB12.out, HZ12.out⟩
            case measure => simp [intOf]; omega
    · obtain rfl : k = l.length := by omega
      have HO := Lib.hid ho; have HB := Lib.hid hb
      clear ho hb hm
      go_wp2_with fail
      go_ret
      obtain ⟨ra, rc, rfl, _, hin⟩ := ints_of_owns HO.out
      exact ⟨⟨ra, rc, rfl, hin⟩, HB.out⟩
end Go.Proofs.Ytccpjfppkahbmaa
