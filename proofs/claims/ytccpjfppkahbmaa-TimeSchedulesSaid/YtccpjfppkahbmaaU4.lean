/- The walk of time.Schedule; the law TimeSchedules. -/
import Derived.Test.YtccpjfppkahbmaaU3
import Derived.Test.YtccpjfppkahbmaaH3
import Derived.Test.YtccpjfppkahbmaaTD
namespace Go.Proofs.Ytccpjfppkahbmaa
open Go.RowKit PK

theorem applyL_iota (l : List Cd) : applyL l (iota l.length) = l := by
  unfold applyL iota
  rw [List.map_map]
  apply List.ext_getElem
  · simp
  · intro i h1 h2
    simp [atC_get h2]
theorem iota_perm (n : Nat) : permO n (iota n) := by
  refine once_iff.1 ?_
  unfold onceB
  rw [Bool.and_eq_true, decide_eq_true_eq, List.all_eq_true]
  refine ⟨iota_len n, fun i hi => onceAt_iff.2 ?_⟩
  have hi := List.mem_range.1 hi
  rw [iota_get hi]
  refine ⟨by omega, by omega, fun hm => ?_⟩
  obtain ⟨j, hj, hjl, e⟩ := of_mem_take hm
  rw [iota_get (by rw [iota_len] at hjl; exact hjl)] at e
  omega
theorem iota_ord (l : List Cd) : ordOK l (iota l.length) (iota l.length).length = true := by
  rw [ordOK_good]
  refine decide_eq_true ?_
  unfold goodP
  refine (iota_lt l.length).imp ?_
  intro a b h
  unfold badB
  rw [decide_eq_false (by omega)]; rfl
/-- What time.Schedule hands back. -/
def SchedPost (l : List Cd) (w : World) (e : Ending) (w' : World) : Prop :=
  (∃ a cap o, e = .returned (.tuple #[.slice a o.length cap, .int .i64 (tErr l)]) ∧ o.length ≤ cap ∧ IntsIn w' a o ∧ (tErr l ≠ 0 → o = []) ∧ (tErr l = 0 → permO l.length o ∧ ordOK l o o.length = true ∧ costO l o ≤ costN l l.length)) ∧ Below w.heap.size w w'
theorem sched_bad (l : List Cd) (w w' : World) (v : Int) (hv : v = tErr l) (h : tErr l ≠ 0) (hb : Below w.heap.size w w') : SchedPost l w (.returned (.tuple #[.slice none 0 0, .int .i64 v])) w' := by
  subst hv
  exact ⟨⟨none, 0, [], rfl, Nat.le_refl _, IntsIn.nil _ _, fun _ => rfl, fun h0 => absurd h0 h⟩, hb⟩
theorem sched_good (l : List Cd) (w w' : World) (B : Nat) (v : Value) (o : List Int) (h : tErr l = 0) (ho : w'.ownsRow B 3 1 v o.length (PK.encI o)) (hp : permO l.length o) (hk : ordOK l o o.length = true) (hc : costO l o ≤ costN l l.length) (hb : Below w.heap.size w w') : SchedPost l w (.returned (.tuple #[v, .int .i64 0])) w' := by
  obtain ⟨a, cap, rfl, hcap, hin⟩ := ints_of_owns ho
  exact ⟨⟨a, cap, o, by rw [h], hcap, hin, fun h0 => absurd h h0, fun _ => ⟨hp, hk, hc⟩⟩, hb⟩
set_option maxRecDepth 100000 in
set_option maxHeartbeats 4000000 in
theorem Schedule_any (l : List Cd) (a : Option Addr) (cap : Nat) (w : World) (hin : CdsIn w a l) (hlc : l.length ≤ cap) (hl : l.length ≤ 1099511627776) :
    Calls Try.prog 35 #[.slice a l.length cap] w (SchedPost l w) := by
  have HV := Lib.hid (tValidate_any l a cap w hin hl)
  have HI := Lib.hid hin
  have HBad := Lib.hid (sched_bad l w)
  have HGood := Lib.hid (sched_good l w)
  by_cases hz : tErr l = 0
  · obtain ⟨h40, hok⟩ := tErr_zero hz
    have HG := Lib.hid (fun w' B v o => HGood.out w' B v o hz)
    rw [hz] at HV
    have HLi := Lib.hid (fun (u : World) (hu : Below w.heap.size w u) => listed_any l a cap u (hin.below hu) hlc h40 hok)
    have HCl := Lib.hid (fun (u : World) (hu : Below w.heap.size w u) => cost_any l a cap u (hin.below hu) h40 hok)
    have HOk := Lib.hid hok
    have HIo : Hid (costO l (iota l.length) = costN l l.length) := Lib.hid (by unfold costO; rw [applyL_iota, iota_len])
    have HIp := Lib.hid (iota_perm l.length)
    have HIk := Lib.hid (iota_ord l)
    have HMx := costN_small l l.length (Nat.le_refl _)
    clear hin hz hok hlc HBad HGood
    obtain ⟨i0, hi, ip0, ip1, ip2⟩ := info_parts Try.infoInt
    go_enter Try.func35, Try.ntmps35
    go_wp2_with fail
    refine HV.out.mono ?_; rintro e w2 ⟨rfl, hb2⟩
    have HB2 := Lib.hid hb2
    clear hb2 HV
    go_wp2_with fail
    refine (HLi.out _ HB2.out).mono ?_; rintro e w3 ⟨⟨v, o, rfl, hp, ho, hown⟩, hb3⟩
    have HB3 := Lib.hid (HB2.out.trans (hb3.mono HB2.out.size))
    obtain ⟨va, vc, rfl, _, hoi⟩ := ints_of_owns hown
    have HOw := Lib.hid hown
    have HP := Lib.hid hp; have HO := Lib.hid ho
    have hol := hp.1
    have HAp := Lib.hid (apply_any l a cap o va vc w3 (HI.out.below HB3.out) hoi (by omega) (fun k hk => permO_get hp hk))
    have HCo := Lib.hid (fun (ra : Option Addr) (rc : Nat) (u : World) h => cost_any (applyL l o) ra rc u h (by rw [applyL_len]; omega) (applyL_ok HOk.out (fun y hy => (permO_mem hp).1 hy)))
    have HCO : Hid (costN (applyL l o) (applyL l o).length = costO l o) := Lib.hid (by rw [applyL_len]; rfl)
    have hcs := costO_small l o
    rw [HCO.out] at HCo
    have HAl : Hid ((applyL l o).length = o.length) := Lib.hid (applyL_len l o)
    have HOl := Lib.hid hol
    have ho40 : o.length ≤ 40 := by omega
    clear hb3 hown hp ho hoi HCO HLi hol
    go_wp2_with fail
    refine HAp.out.mono ?_; rintro e w4 ⟨⟨v4, rfl, ho4⟩, hb4⟩
    have HB4 := Lib.hid (HB3.out.trans (hb4.mono HB3.out.size))
    have HOw4 := Lib.hid (owns_below HOw.out hb4)
    obtain ⟨ra, rc, rfl, _, hin4⟩ := cds_of_owns ho4
    have HC4 := Lib.hid (HCo.out ra rc w4 hin4)
    clear ho4 hb4 hin4 HAp HCo HOw
    go_wp2_with fail
    refine HC4.out.mono ?_; rintro e w5 ⟨rfl, hb5⟩
    have HB5 := Lib.hid (HB4.out.trans (hb5.mono HB4.out.size))
    have HOw5 := Lib.hid (owns_below HOw4.out hb5)
    clear hb5 HC4 HOw4
    go_wp2_with fail
    refine (HCl.out _ HB5.out).mono ?_; rintro e w6 ⟨rfl, hb6⟩
    have HB6 := Lib.hid (HB5.out.trans (hb6.mono HB5.out.size))
    have HOw6 := Lib.hid (owns_below HOw5.out hb6)
    clear hb6 HCl HOw5
    have HG2 := Lib.hid (HG.out _ _ _ _ HOw6.out HP.out HO.out)
    have HG3 := Lib.hid (fun w' B v ho hb => HG.out w' B v (iota l.length) ho HIp.out HIk.out (by rw [HIo.out]; exact Int.le_refl _) hb)
    clear HG HIo
    generalize costO l o = co at *
    generalize costN l l.length = cn at *
    by_cases hle : co ≤ cn
    · go_wp2_with fail
      go_ret2
      exact HG2.out hle HB6.out
    · clear HG2
      go_wp2_with fail
      generalize l.length = n at *
      go_loopw [6, 25] (fun v i wr => ∃ k : Nat, k ≤ n ∧ i = .int .i64 k ∧ wr.ownsRow w6.heap.size 3 1 v (iota k).length (PK.encI (iota k)) ∧ Below w6.heap.size w6 wr) (fun _ i _ => n - (intOf i).toNat)
      case atStart => exact ⟨0, Nat.zero_le _, rfl, owns_nil _ _ _ _, Below.refl _ _⟩
      case round =>
        obtain ⟨k, hk, rfl, ho, hb⟩ := hrel
        by_cases hlt : k < n
        · have hki : (k : Int) < (n : Int) := by omega
          have HIt : Hid (iota (k + 1) = iota k ++ [(k : Int)]) := Lib.hid (by unfold iota; rw [List.range_succ, List.map_append]; rfl)
          have HO2 := Lib.hid ho; have HBq := Lib.hid hb
          have hlen := iota_len k
          clear ho hb
          generalize hE1 : iota (k + 1) = E1 at *
          have HE1 := Lib.hid hE1; clear hE1
          generalize iota k = E at *
          have HN6 := Lib.hid (cell_one_at wr (.int .i64 (k : Int)) 3)
          have HO6 := Lib.hid (HO2.out.alloc (.cells #[.int .i64 (k : Int)] 3))
          have HBq6 := Lib.hid (HBq.out.alloc HBq.out.size (.cells #[.int .i64 (k : Int)] 3))
          have HG5 := Lib.hid (fun g hg => owns_block HO2.out (g := g) hg)
          have HS63 : Hid (E.length + 1 ≤ maxLen) := Lib.hid (by unfold maxLen; omega)
          have HSb : Hid ((E.length + 1) * 8 ≤ 140737488355328) := Lib.hid (by omega)
          clear hlen
          go_wp2_with (first | (at_builtin; refine wpList_append_own_at _ rfl _ _ 25 rfl w6.heap.size 3 i0 (.int .i64 0) 1 8 Try.underlying25 hi ip0 ip1 ip2 rfl (by decide) _ _ _ rfl HO6.out ⟨wr.heap.size, 0, none⟩ 1 1 [.int .i64 (k : Int)] rfl rfl HN6.out (one_int _) HS63.out HSb.out HBq6.out.size ?_; intro v9 w9 hown9 hgrow9 _ hat9; have HB9 := Lib.hid (HBq6.out.grown hgrow9 HBq6.out.size (fun g hg => (HG5.out g hg).1)); have HO9 := Lib.hid hown9; clear hown9 hgrow9 hat9))
          go_roundw
          case rel => exact ⟨k + 1, by omega, by go_num, by rw [HE1.out, HIt.out, List.length_append, encI_snoc]; exact HO9.out, HB9.out⟩
          case measure => simp [intOf]; omega
        · obtain rfl : k = n := by omega
          have HO2 := Lib.hid ho; have HBq := Lib.hid (HB6.out.trans (hb.mono HB6.out.size))
          clear ho hb
          go_wp2_with fail
          go_ret2
          exact HG3.out _ _ _ HO2.out HBq.out
  · have HB := Lib.hid (fun w' v hv => HBad.out w' v hv hz)
    clear HI hl HGood HBad hin hlc
    generalize tErr l = te at *
    go_enter Try.func35, Try.ntmps35
    go_wp2_with fail
    refine HV.out.mono ?_; rintro e w2 ⟨rfl, hb2⟩
    go_wp2_with fail
    go_ret2
    exact HB.out _ _ rfl hb2
theorem isB_yes {l : List Cd} {o : List Int} (hz : tErr l = 0) (hp : permO l.length o) (ho : ordOK l o o.length = true) : ordE l o = 0 ∧ isB l o = true ∧ appE l o = 0 ∧ appL l o = applyL l o := by
  have h1 := ordE_yes hz hp
  have h2 : behindN l o l.length = true := by rw [behind_ord hp]; exact ho
  have h3 : appE l o = 0 := by unfold appE; rw [if_pos h1, if_pos h2]
  refine ⟨h1, ?_, h3, ?_⟩
  · unfold isB; rw [if_pos h1]; exact h2
  · unfold appL; rw [if_pos h3]
theorem cost_app {l : List Cd} {o : List Int} (hz : tErr l = 0) (hp : permO l.length o) : tErr (applyL l o) = 0 ∧ costV (applyL l o) = costO l o := by
  obtain ⟨h40, hok⟩ := tErr_zero hz
  have h1 : tErr (applyL l o) = 0 := tErr_ok (by rw [applyL_len, hp.1]; omega) (applyL_ok hok (fun y hy => (permO_mem hp).1 hy))
  refine ⟨h1, ?_⟩
  unfold costV
  rw [if_pos h1, applyL_len]; rfl
set_option maxRecDepth 100000 in
set_option maxHeartbeats 4000000 in
theorem timeSchedules_any (l : List Cd) (a : Option Addr) (cap : Nat) (w : World) (hin : CdsIn w a l) (hlc : l.length ≤ cap) :
    Calls Try.prog 8 #[.slice a l.length cap] w fun e w' => e = .returned (.bool true) ∧ Below w.heap.size w w' := by
  have HK := Lib.hid known_any
  have HLo := Lib.hid (long_any l.length cap a w)
  by_cases h100 : (100 : Int) < (l.length : Int)
  · rw [decide_eq_true h100] at HLo
    clear hin h100 hlc
    generalize l.length = n at *
    go_enter Try.func8, Try.ntmps8
    go_wp2_with fail
    refine HLo.out.mono ?_; rintro e w1 ⟨rfl, rfl⟩
    go_wp2_with fail
    refine (HK.out _).mono ?_; rintro e w2 ⟨rfl, hb2⟩
    go_wp2_with fail
    go_ret
    exact ⟨rfl, hb2⟩
  rw [decide_eq_false h100] at HLo
  have hl : l.length ≤ 1099511627776 := by omega
  have H1 := Lib.hid (Schedule_any l a cap w hin hlc hl)
  have H2 := Lib.hid (fun (w' : World) (hb : Below w.heap.size w w') => rValidate_any l a cap w' (hin.below hb) hl)
  have H3 := Lib.hid (fun (w' : World) (hb : Below w.heap.size w w') => Best_any l a cap w' (hin.below hb) hlc hl)
  have HI := Lib.hid hin
  unfold SchedPost at H1
  unfold BestPost at H3
  by_cases hz : tErr l = 0
  · have HZ := Lib.hid hz
    rw [hz] at H1 H2
    clear hz h100
    go_enter Try.func8, Try.ntmps8
    go_wp2_with fail
    refine HLo.out.mono ?_; rintro e w1 ⟨rfl, rfl⟩
    clear HLo
    go_wp2_with fail
    refine H1.out.mono ?_; rintro e w1 ⟨⟨oa, oc, o, rfl, hoc, hoi, _, hgood⟩, hb1⟩
    have hgd := hgood (by trivial)
    have HB1 := Lib.hid hb1
    have HOi := Lib.hid hoi
    have HOc := Lib.hid hoc
    clear hb1 H1 hgood hoi hoc
    go_wp2_with fail
    refine (H2.out _ HB1.out).mono ?_; rintro e w2 ⟨rfl, hb2⟩
    have HB2 := Lib.hid (HB1.out.trans (hb2.mono HB1.out.size))
    have HOi2 := Lib.hid (HOi.out.below hb2)
    obtain ⟨hp, ho, hco⟩ := hgd
    have hy := isB_yes HZ.out hp ho
    have hca := cost_app HZ.out hp
    have h40 := (tErr_zero HZ.out).1
    have hol := hp.1
    have H4 := Lib.hid (rIsOrder_all l a cap o oa oc w2 (HI.out.below HB2.out) hl HOi2.out HOc.out (by omega))
    have H5 := Lib.hid (fun (u : World) (hu : Below w2.heap.size w2 u) => rApply_all l a cap o oa oc u ((HI.out.below HB2.out).below hu) hl (HOi2.out.below hu) HOc.out (by omega))
    have H6 := Lib.hid (fun ra rc (u : World) (hu : CdsIn u ra (applyL l o)) => rCost_all (applyL l o) ra rc u hu (by rw [applyL_len]; omega))
    have H7 := Lib.hid (fun (u : World) (hu : Below w.heap.size w u) => rCost_all l a cap u (HI.out.below hu) hl)
    unfold IsOrdPost at H4
    unfold ApplyPost at H5
    unfold CostPost at H6 H7
    rw [hy.1, hy.2.1] at H4
    rw [hy.2.2.1, hy.2.2.2] at H5
    rw [hca.1, hca.2] at H6
    have hcv : costV l = costN l l.length := if_pos HZ.out
    rw [HZ.out, hcv] at H7
    have HBe : Hid (l.length ≤ 6 → fewE l = 0 ∧ (bestV l).2 ≤ costO l o) := Lib.hid (fun h6 => by
      have hf : fewE l = 0 := by unfold fewE; rw [if_pos HZ.out, if_pos h6]
      refine ⟨hf, ?_⟩
      unfold bestV
      rw [if_pos hf]
      exact bestF_le (fun o => (costO_small l o).1) (permO_dfs hp ho))
    clear hb2 H2 HOi hp ho hy hca hcv hol HOc hl hlc
    generalize costO l o = co at *
    generalize costN l l.length = cn at *
    generalize applyL l o = M at *
    generalize o.length = on at *
    go_wp2_with fail
    refine H4.out.mono ?_; rintro e w4 ⟨rfl, hb4⟩
    have HB4 := Lib.hid (HB2.out.trans (hb4.mono HB2.out.size))
    have H5 := Lib.hid (H5.out w4 hb4)
    clear hb4 H4
    go_wp2_with fail
    refine H5.out.mono ?_; rintro e w5 ⟨⟨ra, rc, rfl, hm5, _⟩, hb5⟩
    have HB5 := Lib.hid (HB4.out.trans (hb5.mono HB4.out.size))
    have H6 := Lib.hid (H6.out ra rc w5 hm5)
    clear hb5 hm5 H5
    generalize M.length = mn at *
    go_wp2_with fail
    refine H6.out.mono ?_; rintro e w6 ⟨rfl, hb6⟩
    have HB6 := Lib.hid (HB5.out.trans (hb6.mono HB5.out.size))
    clear hb6 H6
    go_wp2_with fail
    refine (H7.out _ HB6.out).mono ?_; rintro e w7 ⟨rfl, hb7⟩
    have HB7 := Lib.hid (HB6.out.trans (hb7.mono HB6.out.size))
    clear hb7 H7
    by_cases h6 : l.length ≤ 6
    · have h6i : (l.length : Int) ≤ 6 := by omega
      obtain ⟨hf, hbe⟩ := HBe.out h6
      rw [hf] at H3
      clear hf HBe
      generalize bestV l = bv at *
      obtain ⟨bvl, bvc⟩ := bv
      simp only at H3 hbe
      generalize bvl.length = bvn at *
      generalize l.length = n at *
      go_wp2_with fail
      refine (H3.out _ HB7.out).mono ?_; rintro e w8 ⟨⟨xa, xc, rfl, _⟩, hb8⟩
      have HB8 := Lib.hid (HB7.out.trans (hb8.mono HB7.out.size))
      clear hb8 H3
      go_wp2_with fail
      refine (HK.out _).mono ?_; rintro e w9 ⟨rfl, hb9⟩
      have HB9 := Lib.hid (HB8.out.trans (hb9.mono HB8.out.size))
      clear hb9
      go_wp2_with fail
      go_ret
      exact ⟨rfl, HB9.out⟩
    · have h6i : (6 : Int) < (l.length : Int) := by omega
      clear H3 HBe
      generalize l.length = n at *
      go_wp2_with fail
      refine (HK.out _).mono ?_; rintro e w9 ⟨rfl, hb9⟩
      have HB9 := Lib.hid (HB7.out.trans (hb9.mono HB7.out.size))
      clear hb9
      go_wp2_with fail
      go_ret
      exact ⟨rfl, HB9.out⟩
  · have HZ := Lib.hid hz
    clear H3 HI hin hlc hl h100
    generalize hte : tErr l = te at *
    have HTe := Lib.hid hte; clear hte
    generalize l.length = n at *
    go_enter Try.func8, Try.ntmps8
    go_wp2_with fail
    refine HLo.out.mono ?_; rintro e w1 ⟨rfl, rfl⟩
    clear HLo
    go_wp2_with fail
    refine H1.out.mono ?_; rintro e w1 ⟨⟨oa, oc, o, rfl, _, _, hnil, _⟩, hb1⟩
    obtain rfl := hnil HZ.out
    have HB1 := Lib.hid hb1
    clear hb1 H1 hnil
    go_wp2_with fail
    refine (H2.out _ HB1.out).mono ?_; rintro e w2 ⟨rfl, hb2⟩
    have HB2 := Lib.hid (HB1.out.trans (hb2.mono HB1.out.size))
    clear hb2 H2
    go_wp2_with fail
    refine (HK.out _).mono ?_; rintro e w8 ⟨rfl, hb8⟩
    have HB8 := Lib.hid (HB2.out.trans (hb8.mono HB2.out.size))
    clear hb8
    go_wp2_with fail
    go_ret
    exact ⟨rfl, HB8.out⟩
end Go.Proofs.Ytccpjfppkahbmaa
