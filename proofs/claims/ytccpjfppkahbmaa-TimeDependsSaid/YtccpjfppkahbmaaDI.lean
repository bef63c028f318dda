/- SamePairs at equal lists; the walk of time.Depends; the law TimeDepends. -/
import Derived.Test.YtccpjfppkahbmaaDH
import Derived.Test.YtccpjfppkahbmaaKS
import Derived.Deep.QuietTactic
import Derived.BigQuiet
namespace Go.Proofs.Ytccpjfppkahbmaa
open Go.RowKit PK

set_option maxRecDepth 100000 in
set_option maxHeartbeats 1000000 in
theorem samePairs_self (l : StrL) (a a' : Option Addr) (cap cap' : Nat) (w : World) (hin : StrIn w a l) (hin' : StrIn w a' l) (hl : l.length ≤ 100000) :
    Calls Try.prog 38 #[.slice a l.length cap, .slice a' l.length cap'] w fun e w' => e = .returned (.bool true) ∧ Below w.heap.size w w' := by
  have HI := Lib.hid hin; have HI' := Lib.hid hin'
  clear hin hin'
  have hn : ((l.length : Int) != (l.length : Int)) = false := by simp
  go_enter Try.func38, Try.ntmps38
  go_wp2_with fail
  go_loopw [5] (fun i wr => ∃ k : Nat, k ≤ l.length ∧ i = .int .i64 k ∧ Below w.heap.size w wr) (fun i _ => l.length - (intOf i).toNat)
  case atStart => exact ⟨0, Nat.zero_le _, rfl, Below.refl _ _⟩
  case round =>
    obtain ⟨k, hk, rfl, hb⟩ := hrel
    have HB := Lib.hid hb
    by_cases hlt : k < l.length
    · have hki : (k : Int) < l.length := by omega
      have hk0 : (0 : Int) ≤ (k : Int) := by omega
      obtain ⟨b1, o1, rfl, c1, c2⟩ := HI.out.below hb k hlt
      obtain ⟨b2, o2, rfl, d1, d2⟩ := HI'.out.below hb k hlt
      clear hb
      generalize (atH l k).1 = x at *
      generalize (atH l k).2 = y at *
      have hneq := neqH_run x y
      have hgd := fun op a b => guardH op a b x y x y
      go_wp2_with fail
      go_quiet (fail)
      go_wp2_with fail
      go_roundw
      case rel => exact ⟨k + 1, by omega, by go_num, HB.out.trans (below_drewN (Below.refl _ _) _)⟩
      case measure => simp [intOf]; omega
    · have hki : ¬ (k : Int) < l.length := by omega
      clear hb
      go_wp2_with fail
      go_ret
      exact ⟨rfl, HB.out⟩
set_option maxRecDepth 100000 in
set_option maxHeartbeats 4000000 in
theorem Depends_all (l : List Cd) (a : Option Addr) (cap : Nat) (w : World) (hin : CdsIn w a l) (hlc : l.length ≤ cap) (hl : l.length ≤ 1099511627776) :
    Calls Try.prog 36 #[.slice a l.length cap] w (PairPost (depL l) (tErr l) w) := by
  have HI := Lib.hid hin
  have HV := Lib.hid (tValidate_any l a cap w hin hl)
  have HBad := Lib.hid (pair_bad l w)
  have HTb := Lib.hid (fun (w' : World) (hb : Below w.heap.size w w') (h1 : l.length ≤ 40) (h2 : ∀ k, k < l.length → okC (atC l k) = true) => table_any l a cap w' (hin.below hb) hlc h1 h2)
  clear hin hlc
  by_cases hz : tErr l = 0
  · obtain ⟨h40, hok⟩ := tErr_zero hz
    have HRes : Hid (depL l = sort2 (depT l l.length)) := Lib.hid (by rw [sort_dep]; exact if_pos hz)
    rw [HRes.out]
    rw [hz] at HV ⊢
    have HTb := Lib.hid (fun w' hb => HTb.out w' hb h40 hok)
    have htl : (tabL l).length = l.length := by simp [tabL]
    have HGet : Hid (∀ k, k < l.length → (tabL l).getD k [] = tabN l k k) := Lib.hid (fun k hk => by simp [tabL, List.getD_eq_getElem?_getD, hk])
    have HTl := Lib.hid htl
    clear hz hok HBad hl HI htl
    go_enter Try.func36, Try.ntmps36
    go_wp2_with fail
    refine HV.out.mono ?_; rintro e w2 ⟨rfl, hb2⟩
    have HB2 := Lib.hid hb2
    clear hb2 HV
    go_wp2_with fail
    refine (HTb.out _ HB2.out).mono ?_; rintro e w3 ⟨⟨v, rfl, ta, tc, rfl, hrow⟩, hb3⟩
    have HRow := Lib.hid hrow
    have HB3 := Lib.hid (HB2.out.trans (hb3.mono HB2.out.size))
    clear hb3 hrow HTb HB2
    rw [HTl.out]
    go_wp2_with fail
    obtain ⟨i0, hi, ip0, ip1, ip2⟩ := info_parts Try.infoPair
    go_loopw [5, 18] (fun v i wr => ∃ k : Nat, k ≤ l.length ∧ i = .int .i64 k ∧ wr.ownsRow w3.heap.size 87 2 v (depT l k).length (encH (depT l k)) ∧ Below w3.heap.size w3 wr) (fun _ i _ => l.length - (intOf i).toNat)
    case atStart => exact ⟨0, Nat.zero_le _, rfl, owns_nil _ _ _ _, Below.refl _ _⟩
    case round =>
      obtain ⟨k, hk, rfl, ho, hb⟩ := hrel
      by_cases hlt : k < l.length
      · have HO := Lib.hid ho; have HB := Lib.hid hb
        have hki : (k : Int) < (l.length : Int) := by omega
        have hdl2 : (depT l k).length ≤ 1600 := Nat.le_trans (depT_len l k) (Nat.mul_le_mul (Nat.le_trans hk h40) (Nat.le_trans hk h40))
        have HDs := Lib.hid (depT_succ l k)
        obtain ⟨tb, to, ra, rc, rfl, hcr, hri⟩ := HRow.out k (by rw [HTl.out]; exact hlt)
        rw [HGet.out k hlt] at hcr hri
        have hcr := keep hcr hb
        have htn := tabN_len l k k
        have HRi := Lib.hid hri
        clear ho hb hri
        generalize depT l k = D at *
        generalize tabN l k k = T at *
        generalize hTn : T.length = tn at *
        have HTn := Lib.hid hTn; clear hTn
        go_wp2_with fail
        go_loopw [5, 25] (fun v j wr' => ∃ m : Nat, m ≤ tn ∧ j = .int .i64 m ∧ wr'.ownsRow w3.heap.size 87 2 v (D ++ tabP k (T.take m)).length (encH (D ++ tabP k (T.take m))) ∧ Below w3.heap.size w3 wr') (fun _ j _ => tn - (intOf j).toNat)
        case atStart => exact ⟨0, Nat.zero_le _, rfl, by simpa [tabP] using HO.out, HB.out⟩
        case round =>
          obtain ⟨m, hm, rfl, ho, hb⟩ := hrel
          by_cases hml : m < tn
          · have hmi : (m : Int) < (tn : Int) := by omega
            have hTm : m < T.length := by rw [HTn.out]; exact hml
            obtain ⟨rb, ro, rfl, hcx⟩ := HRi.out.below hb m hTm
            have HTk : Hid (D ++ tabP k (T.take (m + 1)) = (D ++ tabP k (T.take m)) ++ [(T.getD m 0, (k : Int))]) := Lib.hid (by
              rw [takeI_succ hTm]
              simp [tabP])
            have hel : (D ++ tabP k (T.take m)).length ≤ 2000 := by
              rw [List.length_append]
              unfold tabP
              rw [List.length_map, List.length_take]
              omega
            have HO2 := Lib.hid ho; have HB2 := Lib.hid hb
            clear ho hb hTm
            generalize hE1 : D ++ tabP k (T.take (m + 1)) = E1 at *
            have HE1 := Lib.hid hE1; clear hE1
            generalize D ++ tabP k (T.take m) = E at *
            generalize T.getD m 0 = x at *
            have HN6 := Lib.hid (cell_two_at wr (.int .i64 x) (.int .i64 (k : Int)) 87)
            have HO6 := Lib.hid (HO2.out.alloc (.cells #[.int .i64 x, .int .i64 (k : Int)] 87))
            have HB6 := Lib.hid (HB2.out.alloc HB2.out.size (.cells #[.int .i64 x, .int .i64 (k : Int)] 87))
            have HG5 := Lib.hid (fun g hg => owns_block HO2.out (g := g) hg)
            have HS63 : Hid (List.length E + 1 ≤ maxLen) := Lib.hid (by unfold maxLen; omega)
            have HSb : Hid ((List.length E + 1) * 16 ≤ 140737488355328) := Lib.hid (by omega)
            go_wp2_with (first | (at_builtin; refine wpList_append_own_at _ rfl _ _ 57 rfl w3.heap.size 87 i0 (.agg #[.int .i64 0, .int .i64 0]) 2 16 Try.underlying57 hi ip0 ip1 ip2 rfl (by decide) _ _ _ rfl HO6.out ⟨wr.heap.size, 0, none⟩ 1 1 [.int .i64 x, .int .i64 (k : Int)] rfl rfl HN6.out (one_two _ _) HS63.out HSb.out HB6.out.size ?_; intro v9 w9 hown9 hgrow9 _ hat9; have HB9 := Lib.hid (HB6.out.grown hgrow9 HB6.out.size (fun g hg => (HG5.out g hg).1)); have HO9 := Lib.hid hown9; clear hown9 hgrow9 hat9))
            go_roundw
            case rel => exact ⟨m + 1, by omega, by go_num, by rw [HE1.out, HTk.out, List.length_append, encH_snoc]; exact HO9.out, HB9.out⟩
            case measure => simp [intOf]; omega
          · obtain rfl : m = tn := by omega
            have HO2 := Lib.hid ho; have HB2 := Lib.hid hb
            clear ho hb
            go_wp2_with fail
            go_roundw
            case rel => exact ⟨k + 1, by omega, by go_num, by rw [HDs.out]; have := HO2.out; rwa [List.take_of_length_le (by rw [HTn.out]; exact Nat.le_refl _)] at this, HB2.out⟩
            case measure => simp [intOf]; omega
      · obtain rfl : k = l.length := by omega
        have HO := Lib.hid ho
        have hdl2 : (depT l l.length).length ≤ 1600 := Nat.le_trans (depT_len l l.length) (Nat.mul_le_mul h40 h40)
        have HS := Lib.hid (sort2_any (depT l l.length) u5 w3.heap.size wr ho (by omega))
        have HG := Lib.hid (fun g hg => owns_block HO.out (g := g) hg)
        have HB := Lib.hid (HB3.out.trans (hb.mono HB3.out.size))
        obtain ⟨va, vc, rfl⟩ := owns_shape ho
        have HZ3 := Lib.hid HB3.out.size
        clear ho hb HO
        go_wp2_with fail
        refine HS.out.mono ?_; rintro e w8 ⟨rfl, ho8, hg8⟩
        have HO8 := Lib.hid ho8
        have HB8 := Lib.hid (HB.out.grown hg8 HB.out.size (fun g hg => Nat.le_trans HZ3.out (HG.out g hg).1))
        clear ho8 hg8
        go_wp2_with fail
        go_ret2
        obtain ⟨ra2, rc2, e2, hin⟩ := strIn_of_owns (l := sort2 (depT l l.length)) (by rw [sort2_len]; exact HO8.out)
        rw [e2]
        exact ⟨⟨ra2, rc2, rfl, hin⟩, HB8.out⟩
  · generalize tErr l = te at *
    clear HI hl HTb
    go_enter Try.func36, Try.ntmps36
    go_wp2_with fail
    refine HV.out.mono ?_; rintro e w2 ⟨rfl, hb2⟩
    go_wp2_with fail
    go_ret2
    exact HBad.out _ hz hb2
end Go.Proofs.Ytccpjfppkahbmaa
