/- The law FlowRenames. -/
import Derived.Test.YtmljmmnofhhheaaN4
import Derived.Deep.QuietTactic
namespace Go.Proofs.Ytmljmmnofhhheaa
open Go.RowKit

theorem rows_slice {w : World} {v : Value} {g : List (List Int)} {to : List Int} (h : RowsSl w v (renL g to)) : ∃ a cap, v = .slice a (renGr g to).length cap ∧ GraphIn w a (renGr g to) ∧ RowsIn w a (renL g to) := by
  obtain ⟨a, cap, rfl, hr⟩ := h
  have e := renL_eq g to
  refine ⟨a, cap, by rw [e, intsG_len], ?_, hr⟩
  rw [e] at hr
  exact graph_rows hr
theorem RowsSl.below {w w' : World} {v : Value} {L : List (List Int)} (h : RowsSl w v L) (hb : Below w.heap.size w w') : RowsSl w' v L := by
  obtain ⟨a, cap, rfl, hr⟩ := h
  exact ⟨a, cap, rfl, hr.below hb⟩

set_option maxRecDepth 100000 in
set_option maxHeartbeats 4000000 in
theorem flowRenames_any (g : List (List Int)) (ga : Option Addr) (cap : Nat) (to : List Int) (ta : Option Addr) (tcap : Nat) (w : World) (hin : RowsIn w ga g) (hl : g.length ≤ maxLen) (hr : ∀ k, k < g.length → (g.getD k []).length ≤ maxLen) (ht : IntsIn w ta to) :
    Calls Try.prog 8 #[.slice ga g.length cap, .slice ta to.length tcap] w fun e w' => e = .returned (.bool true) ∧ Below w.heap.size w w' := by
  have HL := Lib.hid (long_any g ga cap w hin hl hr)
  have HK := Lib.hid known_any
  cases hlong : longB g
  · rw [hlong] at HL
    have hs := short_of_long hlong
    by_cases htl : 50 < to.length
    · have hti : (50 : Int) < (to.length : Int) := by omega
      clear hin hl hr hs hlong ht
      go_enter Try.func8, Try.ntmps8
      go_wp2_with fail
      refine HL.out.mono ?_; rintro e w1 ⟨rfl, rfl⟩
      go_wp2_with fail
      refine (HK.out _).mono ?_; rintro e w2 ⟨rfl, hb2⟩
      go_wp2_with fail
      go_ret
      exact ⟨rfl, hb2⟩
    · have hti : ¬ (50 : Int) < (to.length : Int) := by omega
      have HA := Lib.hid (Rename_any g ga cap to ta tcap w hin hs ht (by omega))
      have HA2 : Hid (∀ w', Below w.heap.size w w' → Calls Try.prog 32 #[.slice ga g.length cap, .slice ta to.length tcap] w' (RowsPost (renE g to) (renL g to) w')) := Lib.hid fun w' hb => rRename_any g ga cap to ta tcap w' (hin.below hb) hs (ht.below hb)
      obtain ⟨hgl, hgr⟩ := renGr_len g to
      have HSame : Hid (∀ w' a b ca cb, GraphIn w' a (renGr g to) → GraphIn w' b (renGr g to) → Calls Try.prog 33 #[.slice a (renGr g to).length ca, .slice b (renGr g to).length cb] w' fun e w'' => e = .returned (.bool true) ∧ Below w'.heap.size w' w'') := Lib.hid fun w' a b ca cb h1 h2 => sameLists_self (renGr g to) a b ca cb w' h1 h2 hgl hgr
      have HSl : Hid (∀ w' v, RowsSl w' v (renL g to) → ∃ a cap, v = .slice a (renGr g to).length cap ∧ GraphIn w' a (renGr g to) ∧ RowsIn w' a (renL g to)) := Lib.hid fun w' v h => rows_slice h
      by_cases hE : renE g to = 0
      · obtain ⟨hv, hv2⟩ : validE g = 0 ∧ validE (renL g to) = 0 := ⟨(ren_parts hE).1, (order_renL hE).1⟩
        have HO : Hid (∀ w', Below w.heap.size w w' → Calls Try.prog 18 #[.slice ga g.length cap] w' (ListPost 0 (orderR g) w')) := Lib.hid fun w' hb => by
          have := Order_any g ga cap w' (hin.below hb) hs
          rwa [hv] at this
        have HO2 : Hid (∀ w' a ca, RowsIn w' a (renL g to) → Calls Try.prog 18 #[.slice a (renGr g to).length ca] w' (ListPost 0 ((orderR g).map (tN to)) w')) := Lib.hid fun w' a ca h => by
          have := Order_any (renL g to) a ca w' h (renL_short g to)
          rwa [hv2, (order_renL hE).2, show (renL g to).length = (renGr g to).length by rw [renL_eq, intsG_len]] at this
        have HTo : Hid (∀ k, k < (orderR g).length → (orderR g).getD k 0 < to.length ∧ to.getD ((orderR g).getD k 0) 0 = ((((orderR g).map (tN to)).getD k 0 : Nat) : Int)) := Lib.hid fun k hk => order_to hE hk
        have hll : ((orderR g).map (tN to)).length = (orderR g).length := by simp
        have hol := orderR_len g
        have HT := Lib.hid ht
        rw [hE] at HA HA2
        clear hin hl hr hs hlong ht hv hv2 hE hgl hgr
        generalize renL g to = RL at *
        generalize renGr g to = RG at *
        generalize (orderR g).map (tN to) = Y at *
        generalize orderR g = X at *
        generalize hn : to.length = n at *
        have HN := Lib.hid hn
        clear hn
        go_enter Try.func8, Try.ntmps8
        go_wp2_with fail
        refine HL.out.mono ?_; rintro e w1 ⟨rfl, rfl⟩
        go_wp2_with fail
        refine HA.out.mono ?_; rintro e w2 ⟨v2, rfl, h2, hb2⟩
        have H2 := Lib.hid h2; have HBa := Lib.hid hb2; clear h2 hb2
        go_wp2_with fail
        refine (HA2.out _ HBa.out).mono ?_; rintro e w3 ⟨v3, rfl, h3, hb3⟩
        have HBb := Lib.hid (HBa.out.trans (hb3.mono HBa.out.size))
        obtain ⟨a2, c2, rfl, g2, r2⟩ := HSl.out _ _ (H2.out.below hb3)
        obtain ⟨a3, c3, rfl, g3, r3⟩ := HSl.out _ _ h3
        have HS := Lib.hid (HSame.out _ _ _ c2 c3 g2 g3)
        have HR2 := Lib.hid r2
        clear h3 hb3 g2 g3 r2 r3 H2
        go_wp2_with fail
        refine HS.out.mono ?_; rintro e w4 ⟨rfl, hb4⟩
        have HBc := Lib.hid (HBb.out.trans (hb4.mono HBb.out.size)); have HR2b := Lib.hid (HR2.out.below hb4); clear hb4
        go_wp2_with fail
        refine (HO.out _ HBc.out).mono ?_; rintro e w5 ⟨v5, rfl, h5, hb5⟩
        have H5 := Lib.hid h5; have HBd := Lib.hid (HBc.out.trans (hb5.mono HBc.out.size)); have HR2c := Lib.hid (HR2b.out.below hb5); clear h5 hb5
        go_wp2_with fail
        refine (HO2.out _ _ _ HR2c.out).mono ?_; rintro e w6 ⟨v6, rfl, h6, hb6⟩
        obtain ⟨a5, c5, rfl, n5⟩ := natsIn_of (H5.out.below hb6)
        obtain ⟨a6, c6, rfl, n6⟩ := natsIn_of h6
        have HBe := Lib.hid (HBd.out.trans (hb6.mono HBd.out.size)); have HN5 := Lib.hid n5; have HN6 := Lib.hid n6
        clear h6 hb6 n5 n6
        rw [hll]
        go_wp2_with fail
        go_loopw [13] (fun i wr => ∃ k : Nat, k ≤ X.length ∧ i = .int .i64 k ∧ Below w.heap.size w wr ∧ Below w6.heap.size w6 wr) (fun i _ => X.length - (intOf i).toNat)
        case atStart => exact ⟨0, Nat.zero_le _, rfl, HBe.out, Below.refl _ _⟩
        case round =>
          obtain ⟨k, hk, rfl, hb, hb6⟩ := hrel
          by_cases hlt : k < X.length
          · have hki : (k : Int) < (X.length : Int) := by omega
            obtain ⟨t1, t2⟩ := HTo.out k hlt
            obtain ⟨b5, o5, rfl, hc5⟩ := (HN5.out.below hb6) k hlt
            obtain ⟨b6, o6, rfl, hc6⟩ := (HN6.out.below hb6) k (by rw [hll]; exact hlt)
            obtain ⟨bt, ot, rfl, hct⟩ := (HT.out.below hb) (X.getD k 0) (by rw [HN.out]; exact t1)
            rw [t2] at hct
            have HBw := Lib.hid hb; have HB6 := Lib.hid hb6
            clear hb hb6 t2
            generalize X.getD k 0 = x at *
            generalize Y.getD k 0 = y at *
            have hx0 : ¬ (x : Int) < 0 := by omega
            have hxn : ¬ (n : Int) ≤ (x : Int) := by omega
            have hxi : (x : Int) < (n : Int) := by omega
            have hyy : ((y : Int) == (y : Int)) = true := by simp
            have hky : (k : Int) < (Y.length : Int) := by omega
            go_wp2_with fail
            go_quiet (fail)
            go_wp2_with fail
            go_roundw
            case rel => exact ⟨k + 1, by omega, by go_num, HBw.out.trans (below_drewN (Below.refl _ _) _), HB6.out.trans (below_drewN (Below.refl _ _) _)⟩
            case measure => simp [intOf]; omega
          · obtain rfl : k = X.length := by omega
            have HBw := Lib.hid hb
            clear hb hb6
            go_wp2_with fail
            refine (HK.out _).mono ?_; rintro e w11 ⟨rfl, hb11⟩
            go_wp2_with fail
            go_ret
            exact ⟨rfl, HBw.out.trans (hb11.mono HBw.out.size)⟩
      · have hE0 : (renE g to == 0) = false := by rw [beq_eq_false_iff_ne]; exact hE
        clear hin hl hr hs hlong ht hgl hgr
        generalize renL g to = RL at *
        generalize renGr g to = RG at *
        generalize renE g to = E at *
        have hEE : (E == E) = true := by simp
        go_enter Try.func8, Try.ntmps8
        go_wp2_with fail
        refine HL.out.mono ?_; rintro e w1 ⟨rfl, rfl⟩
        go_wp2_with fail
        refine HA.out.mono ?_; rintro e w2 ⟨v2, rfl, h2, hb2⟩
        have H2 := Lib.hid h2; have HBa := Lib.hid hb2; clear h2 hb2
        go_wp2_with fail
        refine (HA2.out _ HBa.out).mono ?_; rintro e w3 ⟨v3, rfl, h3, hb3⟩
        have HBb := Lib.hid (HBa.out.trans (hb3.mono HBa.out.size))
        obtain ⟨a2, c2, rfl, g2, r2⟩ := HSl.out _ _ (H2.out.below hb3)
        obtain ⟨a3, c3, rfl, g3, r3⟩ := HSl.out _ _ h3
        have HS := Lib.hid (HSame.out _ _ _ c2 c3 g2 g3)
        clear h3 hb3 g2 g3 r2 r3 H2
        go_wp2_with fail
        refine HS.out.mono ?_; rintro e w4 ⟨rfl, hb4⟩
        have HBc := Lib.hid (HBb.out.trans (hb4.mono HBb.out.size)); clear hb4
        go_wp2_with fail
        refine (HK.out _).mono ?_; rintro e w7 ⟨rfl, hb7⟩
        go_wp2_with fail
        go_ret
        exact ⟨rfl, HBc.out.trans (hb7.mono HBc.out.size)⟩
  · rw [hlong] at HL
    clear hin hl hr hlong ht
    go_enter Try.func8, Try.ntmps8
    go_wp2_with fail
    refine HL.out.mono ?_; rintro e w1 ⟨rfl, rfl⟩
    go_wp2_with fail
    refine (HK.out _).mono ?_; rintro e w2 ⟨rfl, hb2⟩
    go_wp2_with fail
    go_ret
    exact ⟨rfl, hb2⟩
end Go.Proofs.Ytmljmmnofhhheaa
