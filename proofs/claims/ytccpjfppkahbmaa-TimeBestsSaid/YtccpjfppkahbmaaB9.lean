/- The law TimeBests. -/
import Derived.Test.YtccpjfppkahbmaaB8
import Derived.Test.YtccpjfppkahbmaaTD
namespace Go.Proofs.Ytccpjfppkahbmaa
open Go.RowKit PK

theorem bestV_len (l : List Cd) : (bestV l).1.length ≤ 1000 := by
  unfold bestV
  split
  · rename_i hz
    have h6 := (fewE_zero hz).2
    have : ∀ (os : List (List Int)), (∀ o, o ∈ os → o.length ≤ 6) → ∀ b : List Int × Int, b.1.length ≤ 6 → (os.foldl (bestS (costO l)) b).1.length ≤ 6 := fun os => by
      induction os with
      | nil => exact fun _ b hb => hb
      | cons a os ih =>
        intro h b hb
        rw [List.foldl_cons]
        refine ih (fun o ho => h o (List.mem_cons_of_mem _ ho)) _ ?_
        unfold bestS
        split
        · exact h a List.mem_cons_self
        · exact hb
    have h2 := this (dfsL l l.length []) (fun o ho => by
      rw [dfs_perms] at ho
      have := permsL_len _ _ _ (iota_len _) (List.mem_filter.1 ho).1
      omega) ([], -1) (by simp)
    unfold bestF
    omega
  · exact Nat.zero_le _
set_option maxRecDepth 100000 in
set_option maxHeartbeats 2000000 in
theorem timeBests_any (l : List Cd) (a : Option Addr) (cap : Nat) (w : World) (hin : CdsIn w a l) (hlc : l.length ≤ cap) :
    Calls Try.prog 6 #[.slice a l.length cap] w fun e w' => e = .returned (.bool true) ∧ Below w.heap.size w w' := by
  have HK := Lib.hid known_any
  have HLo := Lib.hid (long_any l.length cap a w)
  by_cases h100 : (100 : Int) < (l.length : Int)
  · rw [decide_eq_true h100] at HLo
    clear hin h100 hlc
    generalize l.length = n at *
    go_enter Try.func6, Try.ntmps6
    go_wp2_with fail
    refine HLo.out.mono ?_; rintro e w1 ⟨rfl, rfl⟩
    go_wp2_with fail
    refine (HK.out _).mono ?_; rintro e w2 ⟨rfl, hb2⟩
    go_wp2_with fail
    go_ret
    exact ⟨rfl, hb2⟩
  rw [decide_eq_false h100] at HLo
  have hl : l.length ≤ 1099511627776 := by omega
  have H1 := Lib.hid (fun (w' : World) (hb : Below w.heap.size w w') => Count_any l a cap w' (hin.below hb) hlc hl)
  have H2 := Lib.hid (fun (w' : World) (hb : Below w.heap.size w w') => rCount_any l a cap w' (hin.below hb) hl)
  have H3 := Lib.hid (fun (w' : World) (hb : Below w.heap.size w w') => Best_any l a cap w' (hin.below hb) hlc hl)
  have H4 := Lib.hid (fun (w' : World) (hb : Below w.heap.size w w') => rBest_any l a cap w' (hin.below hb) hl)
  have hbl := bestV_len l
  have H9 := Lib.hid (fun p q c1 c2 w' h1 h2 => same_any (bestV l).1 p q c1 c2 w' h1 h2 (by omega))
  clear hin hlc hl hbl
  unfold CountPost at H1 H2
  unfold BestPost at H3 H4
  generalize bestV l = bv at *
  generalize countV l = cv at *
  generalize fewE l = fe at *
  generalize l.length = n at *
  obtain ⟨bl, bc⟩ := bv
  simp only at H3 H4 H9
  generalize bl.length = bn at *
  go_enter Try.func6, Try.ntmps6
  go_wp2_with fail
  refine HLo.out.mono ?_; rintro e w1 ⟨rfl, rfl⟩
  clear HLo
  go_wp2_with fail
  refine (H1.out _ (Below.refl _ _)).mono ?_; rintro e w1 ⟨rfl, hb1⟩
  have HB1 := Lib.hid hb1
  clear hb1 H1
  go_wp2_with fail
  refine (H2.out _ HB1.out).mono ?_; rintro e w2 ⟨rfl, hb2⟩
  have HB2 := Lib.hid (HB1.out.trans (hb2.mono HB1.out.size))
  clear hb2 H2
  go_wp2_with fail
  refine (H3.out _ HB2.out).mono ?_; rintro e w3 ⟨⟨ra, rc, rfl, hr3⟩, hb3⟩
  have HB3 := Lib.hid (HB2.out.trans (hb3.mono HB2.out.size))
  have HR3 := Lib.hid hr3
  clear hb3 hr3 H3
  go_wp2_with fail
  refine (H4.out _ HB3.out).mono ?_; rintro e w4 ⟨⟨rb, rd, rfl, hr4⟩, hb4⟩
  have HB4 := Lib.hid (HB3.out.trans (hb4.mono HB3.out.size))
  have HR3 := Lib.hid (HR3.out.below hb4)
  have HR4 := Lib.hid hr4
  clear hb4 hr4 H4
  go_wp2_with fail
  refine (H9.out _ _ _ _ _ HR3.out HR4.out).mono ?_; rintro e w7 ⟨rfl, hb7⟩
  have HB7 := Lib.hid (HB4.out.trans (hb7.mono HB4.out.size))
  clear hb7
  go_wp2_with fail
  refine (HK.out _).mono ?_; rintro e w8 ⟨rfl, hb8⟩
  have HB8 := Lib.hid (HB7.out.trans (hb8.mono HB7.out.size))
  clear hb8
  go_wp2_with fail
  go_ret
  exact ⟨rfl, HB8.out⟩
end Go.Proofs.Ytccpjfppkahbmaa
