/- The walks of the specification's isOrder and apply. -/
import Derived.Test.YtccpjfppkahbmaaH1
namespace Go.Proofs.Ytccpjfppkahbmaa
open Go.RowKit PK

set_option maxRecDepth 100000 in
set_option maxHeartbeats 4000000 in
theorem rIsOrder_any (l : List Cd) (a : Option Addr) (cap : Nat) (order : List Int) (oa : Option Addr) (ocap : Nat) (w : World) (hin : CdsIn w a l) (hok : ∀ k, k < l.length → okC (atC l k) = true) (ho : IntsIn w oa order) (hol : order.length ≤ 100000) (hr : ∀ k, k < order.length → 0 ≤ order.getD k 0 ∧ order.getD k 0 < (l.length : Int)) :
    Calls Try.prog 54 #[.slice a l.length cap, .slice oa order.length ocap] w fun e w' => e = .returned (.bool (ordOK l order order.length)) ∧ Below w.heap.size w w' := by
  have HI := Lib.hid hin; have HO := Lib.hid ho
  have HR := Lib.hid hr; have HOk := Lib.hid hok
  have HBad := Lib.hid (fun i j h1 h2 h3 h4 => @ordOK_bad l order i j order.length h1 h2 h3 h4)
  have HOs := Lib.hid (fun k => ordOK_succ l order k)
  have HRs := Lib.hid (fun i m => rowOK_succ l order i m)
  have HRt := Lib.hid (fun i => rowOK_start l order i)
  clear hin ho hr hok
  generalize hon : order.length = n at *
  have HN := Lib.hid hon; clear hon
  go_enter Try.func54, Try.ntmps54
  go_wp2_with fail
  go_loopw [5] (fun i wr => ∃ k : Nat, k ≤ n ∧ i = .int .i64 k ∧ ordOK l order k = true ∧ Below w.heap.size w wr) (fun i _ => n - (intOf i).toNat)
  case atStart => exact ⟨0, Nat.zero_le _, rfl, rfl, Below.refl _ _⟩
  case round =>
    obtain ⟨k, hk, rfl, hgood, hb⟩ := hrel
    have HGood := Lib.hid hgood; have HB := Lib.hid hb
    clear hgood hb
    by_cases hlt : k < n
    · have hki : (k : Int) < (n : Int) := by omega
      have hk0 : (0 : Int) ≤ (k : Int) := by omega
      go_wp2_with fail
      go_loopw [6] (fun j wr => ∃ m : Nat, k + 1 ≤ m ∧ m ≤ n ∧ j = .int .i64 m ∧ rowOK l order k m = true ∧ Below w.heap.size w wr) (fun j _ => n - (intOf j).toNat)
      case atStart => exact ⟨k + 1, Nat.le_refl _, hlt, by go_num, HRt.out k, HB.out⟩
      case round =>
        obtain ⟨m, hkm, hm, rfl, hg2, hb⟩ := hrel
        have HG2 := Lib.hid hg2; have HB2 := Lib.hid hb
        clear hg2 hb
        by_cases hml : m < n
        · have hmi : (m : Int) < (n : Int) := by omega
          have hm0 : (0 : Int) ≤ (m : Int) := by omega
          obtain ⟨ob, oo, rfl, ck⟩ := HO.out.below HB2.out k (by rw [HN.out]; exact hlt)
          obtain ⟨ob', oo', e0, cm⟩ := HO.out.below HB2.out m (by rw [HN.out]; exact hml)
          simp only [Option.some.injEq, Addr.mk.injEq, and_true] at e0
          obtain ⟨e1, e2⟩ := e0
          subst e1; subst e2
          have hra := HR.out k hlt
          have hrb := HR.out m hml
          have HBadm := Lib.hid (HBad.out k m hlt hml (by omega))
          have HRsm := Lib.hid (HRs.out k m)
          have HP : Hid (pairOK l order k m = !(decide (order.getD m 0 < order.getD k 0) && depB (atC l (order.getD m 0).toNat) (atC l (order.getD k 0).toNat))) := Lib.hid rfl
          generalize order.getD k 0 = za at *
          generalize order.getD m 0 = zb at *
          obtain ⟨ma, rfl⟩ := Int.eq_ofNat_of_zero_le hra.1
          obtain ⟨mb, rfl⟩ := Int.eq_ofNat_of_zero_le hrb.1
          rw [Int.toNat_natCast, Int.toNat_natCast] at HP
          generalize pairOK l order k m = po at *
          go_wp2_with fail
          go_quiet (fail)
          have HB3 := Lib.hid (below_drewN HB2.out nq)
          generalize wr.drewN nq = wd at *
          clear HB2 ck cm
          by_cases hlt2 : (mb : Int) < (ma : Int)
          · have hbl : mb < l.length := by omega
            have hal : ma < l.length := by omega
            have hmai : (ma : Int) < (l.length : Int) := by omega
            have hmbi : (mb : Int) < (l.length : Int) := by omega
            have hma0 : (0 : Int) ≤ (ma : Int) := by omega
            have hmb0 : (0 : Int) ≤ (mb : Int) := by omega
            have h2b : decide ((mb : Int) < (ma : Int)) = true := decide_eq_true hlt2
            obtain ⟨bb, off, rfl, hcx⟩ := HI.out.below HB3.out ma hal
            obtain ⟨bb', off', e0, hcy⟩ := HI.out.below HB3.out mb hbl
            simp only [Option.some.injEq, Addr.mk.injEq, and_true] at e0
            obtain ⟨e1, e2⟩ := e0
            subst e1; subst e2
            have HD := Lib.hid (fun u => rDepends_any (atC l mb) (atC l ma) (HOk.out mb hbl) (HOk.out ma hal) u)
            generalize depB (atC l mb) (atC l ma) = db at *
            generalize atC l ma = x at *
            generalize atC l mb = y at *
            obtain ⟨x0, x1, x2, x3, x4, x5⟩ := x
            obtain ⟨y0, y1, y2, y3, y4, y5⟩ := y
            obtain ⟨c0, c1, c2, c3, c4, c5⟩ := hcx
            obtain ⟨d0, d1, d2, d3, d4, d5⟩ := hcy
            simp only at c0 c1 c2 c3 c4 c5 d0 d1 d2 d3 d4 d5
            have HD : Hid (∀ u : World, Calls Try.prog 70 #[.agg #[.int .i64 y0, .int .i64 y1, .int .i64 y2, .int .i64 y3, .int .u32 y4, .int .i64 y5], .agg #[.int .i64 x0, .int .i64 x1, .int .i64 x2, .int .i64 x3, .int .u32 x4, .int .i64 x5]] u fun e w' => e = .returned (.bool db) ∧ Below u.heap.size u w') := HD
            go_upto_region 8 with (fail)
            go_region_held3 (fun w' => w'.cell? ⟨bb, off + mb * 6, none⟩ = some (.int .i64 y0) ∧ w'.cell? ⟨bb, off + mb * 6 + 1, none⟩ = some (.int .i64 y1) ∧ w'.cell? ⟨bb, off + mb * 6 + 2, none⟩ = some (.int .i64 y2) ∧ w'.cell? ⟨bb, off + mb * 6 + 3, none⟩ = some (.int .i64 y3) ∧ w'.cell? ⟨bb, off + mb * 6 + 4, none⟩ = some (.int .u32 y4) ∧ w'.cell? ⟨bb, off + mb * 6 + 5, none⟩ = some (.int .i64 y5) ∧ w'.cell? ⟨bb, off + ma * 6, none⟩ = some (.int .i64 x0) ∧ w'.cell? ⟨bb, off + ma * 6 + 1, none⟩ = some (.int .i64 x1) ∧ w'.cell? ⟨bb, off + ma * 6 + 2, none⟩ = some (.int .i64 x2) ∧ w'.cell? ⟨bb, off + ma * 6 + 3, none⟩ = some (.int .i64 x3) ∧ w'.cell? ⟨bb, off + ma * 6 + 4, none⟩ = some (.int .u32 x4) ∧ w'.cell? ⟨bb, off + ma * 6 + 5, none⟩ = some (.int .i64 x5))
              (first | exact ⟨d0, d1, d2, d3, d4, d5, c0, c1, c2, c3, c4, c5⟩ | exact ⟨keep d0 (by assumption), keep d1 (by assumption), keep d2 (by assumption), keep d3 (by assumption), keep d4 (by assumption), keep d5 (by assumption), keep c0 (by assumption), keep c1 (by assumption), keep c2 (by assumption), keep c3 (by assumption), keep c4 (by assumption), keep c5 (by assumption)⟩)
              (first | (go_at_call 70; refine (HD.out _).mono ?_; rintro e w5 ⟨rfl, hb5⟩; have hb5 := (by first | exact below_of_drew hb5 | exact hb5)))
            have HB5 := Lib.hid (HB3.out.trans (hb5.mono HB3.out.size))
            clear hb5 c0 c1 c2 c3 c4 c5 d0 d1 d2 d3 d4 d5 HD
            cases db
            · have hpo : po = true := by rw [HP.out, h2b]; rfl
              go_wp2_with fail
              go_roundw
              case rel => exact ⟨m + 1, by omega, by omega, by go_num, by rw [HRsm.out, HG2.out, hpo, Bool.or_true]; rfl, HB5.out⟩
              case measure => simp [intOf]; omega
            · have hbad := HBadm.out (by rw [HP.out, h2b]; rfl)
              go_wp2_with fail
              go_ret
              exact ⟨ret_bool hbad.symm, HB5.out⟩
          · have h2b : decide ((mb : Int) < (ma : Int)) = false := decide_eq_false hlt2
            have hpo : po = true := by rw [HP.out, h2b]; rfl
            go_upto_region 8 with (fail)
            go_quiet (fail)
            have HB5 := Lib.hid (below_drewN HB3.out nq)
            generalize wd.drewN nq = wd2 at *
            go_wp2_with fail
            go_roundw
            case rel => exact ⟨m + 1, by omega, by omega, by go_num, by rw [HRsm.out, HG2.out, hpo, Bool.or_true]; rfl, HB5.out⟩
            case measure => simp [intOf]; omega
        · obtain rfl : m = n := by omega
          go_wp2_with fail
          go_roundw
          case rel => exact ⟨k + 1, by omega, by go_num, by rw [HOs.out, HGood.out, HG2.out]; rfl, HB2.out⟩
          case measure => simp [intOf]; omega
    · obtain rfl : k = n := by omega
      go_wp2_with fail
      go_ret
      exact ⟨ret_bool HGood.out.symm, HB.out⟩
set_option maxRecDepth 100000 in
set_option maxHeartbeats 4000000 in
theorem rapply_any (l : List Cd) (a : Option Addr) (cap : Nat) (order : List Int) (oa : Option Addr) (ocap : Nat) (w : World) (hin : CdsIn w a l) (ho : IntsIn w oa order) (hol : order.length ≤ 100000) (hr : ∀ k, k < order.length → 0 ≤ order.getD k 0 ∧ order.getD k 0 < (l.length : Int)) :
    Calls Try.prog 55 #[.slice a l.length cap, .slice oa order.length ocap] w fun e w' => (∃ v, e = .returned v ∧ w'.ownsRow w.heap.size 42 6 v (applyL l order).length (encC (applyL l order))) ∧ Below w.heap.size w w' := by
  have HI := Lib.hid hin; have HO := Lib.hid ho
  have HR := Lib.hid hr
  have HAl := Lib.hid (applyL_len l order)
  clear hin ho hr
  obtain ⟨i0, hi, ip0, ip1, ip2⟩ := info_parts Try.infoCode
  generalize hon : order.length = on at *
  have HOn := Lib.hid hon; clear hon
  go_enter Try.func55, Try.ntmps55
  go_wp2_with fail
  go_loopw [5, 6] (fun v i wr => ∃ k : Nat, k ≤ on ∧ i = .int .i64 k ∧ wr.ownsRow w.heap.size 42 6 v (applyL l (order.take k)).length (encC (applyL l (order.take k))) ∧ Below w.heap.size w wr) (fun _ i _ => on - (intOf i).toNat)
  case atStart => exact ⟨0, Nat.zero_le _, rfl, owns_nil _ _ _ _, Below.refl _ _⟩
  case round =>
    obtain ⟨k, hk, rfl, ho, hb⟩ := hrel
    by_cases hlt : k < on
    · have hki : (k : Int) < (on : Int) := by omega
      have hko : k < order.length := by rw [HOn.out]; exact hlt
      obtain ⟨ob, oo, rfl, hco⟩ := HO.out.below hb k hko
      have hrk := HR.out k hlt
      have HTk := Lib.hid (applyL_take (l := l) hko)
      have hel : (applyL l (order.take k)).length ≤ 100000 := by rw [applyL_len, List.length_take]; omega
      clear hko
      generalize hE1 : applyL l (order.take (k + 1)) = E1 at *
      have HE1 := Lib.hid hE1; clear hE1
      generalize applyL l (order.take k) = E at *
      generalize order.getD k 0 = z at *
      obtain ⟨m, rfl⟩ := Int.eq_ofNat_of_zero_le hrk.1
      have hml : m < l.length := by omega
      obtain ⟨bb, off, rfl, hc⟩ := HI.out.below hb m hml
      rw [Int.toNat_natCast] at HTk
      generalize atC l m = x at *
      obtain ⟨x0, x1, x2, x3, x4, x5⟩ := x
      obtain ⟨c0, c1, c2, c3, c4, c5⟩ := hc
      simp only at c0 c1 c2 c3 c4 c5
      have HO2 := Lib.hid ho; have HB2 := Lib.hid hb
      clear ho hb
      have HN6 := Lib.hid (cell_six_at wr (.int .i64 x0) (.int .i64 x1) (.int .i64 x2) (.int .i64 x3) (.int .u32 x4) (.int .i64 x5) 42)
      have HO6 := Lib.hid (HO2.out.alloc (.cells #[.int .i64 x0, .int .i64 x1, .int .i64 x2, .int .i64 x3, .int .u32 x4, .int .i64 x5] 42))
      have HB6 := Lib.hid (HB2.out.alloc HB2.out.size (.cells #[.int .i64 x0, .int .i64 x1, .int .i64 x2, .int .i64 x3, .int .u32 x4, .int .i64 x5] 42))
      have HG5 := Lib.hid (fun g hg => owns_block HO2.out (g := g) hg)
      have HS63 : Hid (E.length + 1 ≤ maxLen) := Lib.hid (by unfold maxLen; omega)
      have HSb : Hid ((E.length + 1) * 48 ≤ 140737488355328) := Lib.hid (by omega)
      go_wp2_with (first | (at_builtin; refine wpList_append_own_at _ rfl _ _ 22 rfl w.heap.size 42 i0 (.agg #[.int .i64 0, .int .i64 0, .int .i64 0, .int .i64 0, .int .u32 0, .int .i64 0]) 6 48 Try.underlying22 hi ip0 ip1 ip2 rfl (by decide) _ _ _ rfl HO6.out ⟨wr.heap.size, 0, none⟩ 1 1 [.int .i64 x0, .int .i64 x1, .int .i64 x2, .int .i64 x3, .int .u32 x4, .int .i64 x5] rfl rfl HN6.out (one_six _ _ _ _ _ _) HS63.out HSb.out HB6.out.size ?_; intro v9 w9 hown9 hgrow9 _ hat9; have HB9 := Lib.hid (HB6.out.grown hgrow9 HB6.out.size (fun g hg => (HG5.out g hg).1)); have HO9 := Lib.hid hown9; clear hown9 hgrow9 hat9))
      go_roundw
      case rel => exact ⟨k + 1, by omega, by go_num, by rw [HE1.out, HTk.out, List.length_append, encC_snoc]; exact HO9.out, HB9.out⟩
      case measure => simp [intOf]; omega
    · obtain rfl : k = on := by omega
      rw [List.take_of_length_le (by rw [HOn.out]; exact Nat.le_refl _)] at ho
      have HO2 := Lib.hid ho; have HB2 := Lib.hid hb
      clear ho hb
      go_wp2_with fail
      go_ret
      exact ⟨⟨_, rfl, HO2.out⟩, HB2.out⟩
end Go.Proofs.Ytccpjfppkahbmaa
