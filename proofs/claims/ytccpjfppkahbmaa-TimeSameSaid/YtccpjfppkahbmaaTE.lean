/- The law TimeIssues. -/
import Derived.Test.YtccpjfppkahbmaaTD
namespace Go.Proofs.Ytccpjfppkahbmaa
open Go.RowKit PK

set_option maxRecDepth 100000 in
set_option maxHeartbeats 2000000 in
theorem timeIssues_any (l : List Cd) (a : Option Addr) (cap : Nat) (op : Int) (w : World) (hin : CdsIn w a l) :
    Calls Try.prog 3 #[.slice a l.length cap, .int .i64 op] w fun e w' => e = .returned (.bool true) ∧ Below w.heap.size w w' := by
  have HK := Lib.hid known_any
  have HLo := Lib.hid (long_any l.length cap a w)
  by_cases h100 : (100 : Int) < (l.length : Int)
  · rw [decide_eq_true h100] at HLo
    clear hin h100
    generalize l.length = n at *
    go_enter Try.func3, Try.ntmps3
    go_wp2_with fail
    refine HLo.out.mono ?_; rintro e w1 ⟨rfl, rfl⟩
    go_wp2_with fail
    refine (HK.out _).mono ?_; rintro e w2 ⟨rfl, hb2⟩
    go_wp2_with fail
    go_ret
    exact ⟨rfl, hb2⟩
  rw [decide_eq_false h100] at HLo
  have hl : l.length ≤ 1099511627776 := by omega
  have HI := Lib.hid hin
  have H1 := Lib.hid (fun (w' : World) (hb : Below w.heap.size w w') => Issue_any l a cap w' (hin.below hb) hl)
  have H2 := Lib.hid (fun (w' : World) (hb : Below w.heap.size w w') => rIssue_all l a cap w' (hin.below hb) hl)
  have H3 := Lib.hid (fun (w' : World) (hb : Below w.heap.size w w') => Cost_any l a cap w' (hin.below hb) hl)
  have H4 := Lib.hid (fun (w' : World) (hb : Below w.heap.size w w') => rCost_all l a cap w' (hin.below hb) hl)
  have H5 := Lib.hid (tLatency_any op)
  have H6 := Lib.hid (rLatency_any op)
  have H7 := Lib.hid (fun (w' : World) (hb : Below w.heap.size w w') => tValidate_any l a cap w' (hin.below hb) hl)
  have H8 := Lib.hid (fun (w' : World) (hb : Below w.heap.size w w') => rValidate_any l a cap w' (hin.below hb) hl)
  have hil : (issueL l).length ≤ 1000000 := by
    unfold issueL
    split
    · rw [issN_len]; omega
    · exact Nat.zero_le _
  have H9 := Lib.hid (fun p q c1 c2 w' h1 h2 => same_any (issueL l) p q c1 c2 w' h1 h2 hil)
  clear hin hil hl h100
  unfold IssuePost at H1 H2
  unfold CostPost at H3 H4
  unfold LatencyPost at H5 H6
  generalize issueL l = is at *
  generalize costV l = cv at *
  generalize tErr l = te at *
  generalize l.length = n at *
  generalize latV op = lv at *
  generalize latE op = le at *
  go_enter Try.func3, Try.ntmps3
  go_wp2_with fail
  refine HLo.out.mono ?_; rintro e w1 ⟨rfl, rfl⟩
  clear HLo
  go_wp2_with fail
  refine (H1.out _ (Below.refl _ _)).mono ?_; rintro e w1 ⟨⟨ra, rc, rfl, hr1⟩, hb1⟩
  have HB1 := Lib.hid hb1
  have HR1 := Lib.hid hr1
  clear hb1 hr1 H1
  go_wp2_with fail
  refine (H2.out _ HB1.out).mono ?_; rintro e w2 ⟨⟨rb, rd, rfl, hr2⟩, hb2⟩
  have HB2 := Lib.hid (HB1.out.trans (hb2.mono HB1.out.size))
  have HR1 := Lib.hid (HR1.out.below hb2)
  have HR2 := Lib.hid hr2
  clear hb2 hr2 H2
  go_wp2_with fail
  refine (H3.out _ HB2.out).mono ?_; rintro e w3 ⟨rfl, hb3⟩
  have HB3 := Lib.hid (HB2.out.trans (hb3.mono HB2.out.size))
  have HR1 := Lib.hid (HR1.out.below hb3)
  have HR2 := Lib.hid (HR2.out.below hb3)
  clear hb3 H3
  go_wp2_with fail
  refine (H4.out _ HB3.out).mono ?_; rintro e w4 ⟨rfl, hb4⟩
  have HB4 := Lib.hid (HB3.out.trans (hb4.mono HB3.out.size))
  have HR1 := Lib.hid (HR1.out.below hb4)
  have HR2 := Lib.hid (HR2.out.below hb4)
  clear hb4 H4
  go_wp2_with fail
  refine (H5.out _).mono ?_; rintro e w5 ⟨rfl, rfl⟩
  go_wp2_with fail
  refine (H6.out _).mono ?_; rintro e w5 ⟨rfl, rfl⟩
  go_wp2_with fail
  refine (H7.out _ HB4.out).mono ?_; rintro e w5 ⟨rfl, hb5⟩
  have HB5 := Lib.hid (HB4.out.trans (hb5.mono HB4.out.size))
  have HR1 := Lib.hid (HR1.out.below hb5)
  have HR2 := Lib.hid (HR2.out.below hb5)
  clear hb5 H7
  go_wp2_with fail
  refine (H8.out _ HB5.out).mono ?_; rintro e w6 ⟨rfl, hb6⟩
  have HB6 := Lib.hid (HB5.out.trans (hb6.mono HB5.out.size))
  have HR1 := Lib.hid (HR1.out.below hb6)
  have HR2 := Lib.hid (HR2.out.below hb6)
  clear hb6 H8
  go_wp2_with fail
  refine (H9.out _ _ _ _ _ HR1.out HR2.out).mono ?_; rintro e w7 ⟨rfl, hb7⟩
  have HB7 := Lib.hid (HB6.out.trans (hb7.mono HB6.out.size))
  clear hb7
  go_wp2_with fail
  refine (HK.out _).mono ?_; rintro e w8 ⟨rfl, hb8⟩
  have HB8 := Lib.hid (HB7.out.trans (hb8.mono HB7.out.size))
  clear hb8
  go_wp2_with fail
  go_ret
  exact ⟨rfl, HB8.out⟩
end Go.Proofs.Ytccpjfppkahbmaa
