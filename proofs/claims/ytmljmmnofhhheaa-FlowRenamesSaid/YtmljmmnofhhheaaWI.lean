/- The walk of the document's Critical. -/
import Derived.Test.YtmljmmnofhhheaaWH
namespace Go.Proofs.Ytmljmmnofhhheaa
open Go.RowKit

theorem rowE_none {g : Gr} {good : Nat → Nat → Bool} {a k : Nat} (h : ∀ b, good a b = false) : rowE g good a k = [] := by
  unfold rowE setUpto
  rw [List.map_eq_nil_iff, List.filter_eq_nil_iff]
  intro b _
  simp [h]
theorem crit_len {g : Gr} (ok : OkG g) (b : Nat) : (setL (beforeS g (b : Nat) g.length)).length = (setUpto (fun c => goesI g c (b : Nat)) g.length).length := by
  rw [← setUpto_ten (n := g.length) (fun j h => by simp [beforeS]; omega) ok.ten]
  rw [setUpto_congr (T := fun c => goesI g c (b : Nat)) fun j hj => by simp [beforeS, hj]]
theorem setUpto_one (S : NSet) (k : Nat) : (setUpto S (k + 1)).length = (setUpto S k).length + (if S k then 1 else 0) := by
  cases h : S k
  · rw [setUpto_no h]; simp
  · rw [setUpto_yes h]; simp

set_option maxRecDepth 100000 in
set_option maxHeartbeats 4000000 in
theorem rCritical_any (g0 : List (List Int)) (a : Option Addr) (cap : Nat) (w : World) (hin : RowsIn w a g0) (hs : Short g0) :
    Calls Try.prog 16 #[.slice a g0.length cap] w (PairsPost (validE g0) (critR g0) w) := by
  have HV := Lib.hid (rValidate_any g0 a cap w hin hs)
  by_cases hv : validE g0 = 0
  · have hn : critR g0 = edgesL (gN g0) (goodCrit (gN g0)) := by unfold critR critL; rw [if_pos hv]
    have ok := valid_ok hv
    have HE := Lib.hid (edgesL_range ok (goodCrit (gN g0)))
    have HCL := Lib.hid (crit_len ok)
    have hg := hin.graph hv
    have hlen : g0.length = (gN g0).length := by rw [gN_len]
    have HR := Lib.hid (rReach_any a cap (gN g0) 0 (-1) w hg ok ok.pos)
    rw [hn]; rw [hv] at HV; rw [hv]
    rw [hlen] at HV; rw [hlen]
    clear hin hs hv hn hlen
    generalize gN g0 = g at *
    have h10 := ok.ten
    have HG := Lib.hid hg
    clear hg
    generalize hSS : rs g (-1) 0 = S at *
    clear hSS
    generalize hgd2 : (fun a b => S a && goodCrit g a b) = good at *
    have HGood : Hid (∀ x m, good x m = (S x && goodCrit g x m)) := Lib.hid fun x m => by rw [← hgd2]
    clear hgd2
    obtain ⟨i0, hi, hz0, hz1, hz2⟩ := info_parts Try.infoPair
    go_enter Try.func16, Try.ntmps16
    go_wp2_with fail
    refine HV.out.mono ?_; rintro e w0 ⟨rfl, rfl⟩
    go_wp2_with fail
    refine HR.out.mono ?_; rintro e w1 ⟨v, rfl, ⟨q, rcap, rfl, hbs⟩, hb1⟩
    have HB := Lib.hid hb1; have HBS := Lib.hid hbs
    clear hb1 hbs HV HR
    go_wp2_with fail
    go_loopw [6, 7] (fun tv i wr => ∃ k : Nat, k ≤ g.length ∧ i = .int .i64 k ∧ wr.ownsRow w1.heap.size 50 2 tv (edgesUpto g good (List.range g.length) k).length (encP (edgesUpto g good (List.range g.length) k)) ∧ Below w1.heap.size w1 wr) (fun _ i _ => g.length - (intOf i).toNat)
    case atStart => exact ⟨0, Nat.zero_le _, rfl, World.ownsRow_nil _ _ _ _, Below.refl _ _⟩
    case round =>
      obtain ⟨k, hk, rfl, hown, hbl⟩ := hrel
      by_cases hlt : k < g.length
      · have hel := edgesUpto_len g good (List.range g.length) k
        have helk : (edgesUpto g good (List.range g.length) k).length ≤ 100 := Nat.le_trans hel (by
          have : k * g.length ≤ 10 * 10 := Nat.mul_le_mul (by omega) h10
          omega)
        have hnx := edgesUpto_next (g := g) (good := good) (l := List.range g.length) (i := k) (by simpa using hlt)
        rw [range_getD hlt] at hnx
        have HNx := Lib.hid hnx
        have HO := Lib.hid hown; have HBl := Lib.hid hbl
        have hbw := HB.out.trans (hbl.mono HB.out.size)
        have hcell := keep (HBS.out k hlt) hbl
        obtain ⟨gb, goff, a', cap', rfl, hcell0, hrow0⟩ := HG.out k hlt
        have hcg := keep hcell0 hbw
        have hrow := hrow0.below hbw
        have hdg := ok.deg k
        clear hown hbl hel hnx hbw hcell0 hrow0
        generalize edgesUpto g good (List.range g.length) k = E at *
        cases hS : S k
        · rw [hS] at hcell
          have HNo := Lib.hid (rowE_none (g := g) (good := good) (a := k) (k := g.length) (fun b => by rw [HGood.out, hS]; rfl)); clear hS
          clear hrow
          go_wp2_with fail
          go_quiet (fail)
          go_wp2_with fail
          go_roundw
          case rel => exact ⟨k + 1, by omega, by go_num, by rw [HNx.out, HNo.out, List.append_nil]; exact HO.out, below_drewN HBl.out _⟩
          case measure => simp [intOf]; omega
        · rw [hS] at hcell
          by_cases h2 : (succ g k).length = 2
          · have hgc : ∀ m, goodCrit g k m = (((succ g k).getD 0 0 != (succ g k).getD 1 0) && decide (1 < (setL (beforeS g (m : Nat) g.length)).length)) := fun m => by unfold goodCrit; rw [h2]; rfl
            obtain ⟨b0, off0, rfl, hx0⟩ := hrow 0 (by omega)
            obtain ⟨b1, off1, e1, hx1⟩ := hrow 1 (by omega)
            simp only [Option.some.injEq, Addr.mk.injEq, and_true] at e1
            obtain ⟨rfl, rfl⟩ := e1
            rw [h2] at hcg
            have HGC := Lib.hid hgc
            clear hrow hgc h2 hdg
            generalize (succ g k).getD 0 0 = s0 at *
            generalize (succ g k).getD 1 0 = s1 at *
            rw [Nat.add_zero] at hx0
            by_cases hs : s0 = s1
            · subst hs
              have HNo := Lib.hid (rowE_none (g := g) (good := good) (a := k) (k := g.length) (fun b => by rw [HGood.out, HGC.out]; simp)); clear hS
              have h01 : ((s0 : Int) == (s0 : Int)) = true := by simp
              go_wp2_with fail
              go_quiet (fail)
              go_wp2_with fail
              go_roundw
              case rel => exact ⟨k + 1, by omega, by go_num, by rw [HNx.out, HNo.out, List.append_nil]; exact HO.out, below_drewN HBl.out _⟩
              case measure => simp [intOf]; omega
            · have HGC2 : Hid (∀ m, good k m = decide (1 < (setUpto (fun c => goesI g c (m : Nat)) g.length).length)) := Lib.hid fun m => by
                rw [HGood.out, HGC.out, hS, HCL.out]; simp [hs]
              have h01 : ((s0 : Int) == (s1 : Int)) = false := by simp; omega
              have HNe := Lib.hid hs
              clear hS hs
              go_wp2_with fail
              go_quiet (fail)
              go_wp2_with fail
              go_loopw [6, 8] (fun tv i wr => ∃ m : Nat, m ≤ g.length ∧ i = .int .i64 m ∧ wr.ownsRow w1.heap.size 50 2 tv (E ++ rowE g good k m).length (encP (E ++ rowE g good k m)) ∧ Below w1.heap.size w1 wr) (fun _ i _ => g.length - (intOf i).toNat)
              case atStart => exact ⟨0, Nat.zero_le _, rfl, by rw [show rowE g good k 0 = [] from rfl, List.append_nil]; exact HO.out, below_drewN HBl.out _⟩
              case round =>
                obtain ⟨m, hm, rfl, hown, hbl⟩ := hrel
                by_cases hml : m < g.length
                · have hbw := HB.out.trans (hbl.mono HB.out.size)
                  have HGraph := Lib.hid (HG.out.below hbw)
                  have hgoes := rGoes_any _ cap g k m wr (HG.out.below hbw) ok hlt
                  have hGoes := Lib.hid hgoes
                  have hrl := rowE_len g good k m
                  have HBl2 := Lib.hid hbl; have HO2 := Lib.hid hown
                  have HGd := Lib.hid (HGC2.out m)
                  generalize hSb : (fun c => goesI g c (m : Nat)) = B at *
                  have HSb : Hid (∀ c, goesI g c (m : Nat) = B c) := Lib.hid fun c => by rw [← hSb]
                  clear hbw hbl hown hgoes hSb
                  go_wp2_with fail
                  go_loop [9, 10] (fun n i => ∃ c : Nat, c ≤ g.length ∧ i = .int .i64 c ∧ n = .int .i64 ((setUpto B c).length : Nat)) (fun _ i => g.length - (intOf i).toNat)
                  case atStart => exact ⟨0, Nat.zero_le _, rfl, rfl⟩
                  case round =>
                    obtain ⟨c, hc, rfl, rfl⟩ := hrel
                    by_cases hcl : c < g.length
                    · have hg2 := rGoes_any _ cap g c m wr HGraph.out ok hcl
                      rw [HSb.out] at hg2
                      have hG2 := Lib.hid hg2
                      have hone := setUpto_one B c
                      have hle := setUpto_len B c
                      clear hg2
                      generalize (setUpto B c).length = n0 at *
                      cases hBc : B c
                      · rw [hBc] at hG2
                        have HOne : Hid ((setUpto B (c + 1)).length = n0) := Lib.hid (by rw [hone, hBc]; rfl)
                        clear hone hBc
                        go_wp2_with (first | (go_at_call 53; refine hG2.out.mono ?_; rintro e w3 ⟨rfl, rfl⟩))
                        go_round
                        case rel => exact ⟨c + 1, by omega, by go_num, by rw [HOne.out]⟩
                        case measure => simp [intOf]; omega
                      · rw [hBc] at hG2
                        have HOne : Hid ((setUpto B (c + 1)).length = n0 + 1) := Lib.hid (by rw [hone, hBc]; rfl)
                        clear hone hBc
                        go_wp2_with (first | (go_at_call 53; refine hG2.out.mono ?_; rintro e w3 ⟨rfl, rfl⟩))
                        go_round
                        case rel => exact ⟨c + 1, by omega, by go_num, by rw [HOne.out]; go_num⟩
                        case measure => simp [intOf]; omega
                    · obtain rfl : c = g.length := by omega
                      have hle := setUpto_len B g.length
                      generalize (setUpto B g.length).length = n0 at *
                      cases hgo : goesI g k m
                      · rw [hgo] at hGoes
                        have HNo := Lib.hid (rowE_no (g := g) (good := good) (a := k) (k := m) (by rw [hgo]; rfl)); clear hgo
                        go_wp2_with (first | (go_at_call 53; refine hGoes.out.mono ?_; rintro e w3 ⟨rfl, rfl⟩))
                        go_roundw
                        case rel => exact ⟨m + 1, by omega, by go_num, by rw [HNo.out]; exact HO2.out, HBl2.out⟩
                        case measure => simp [intOf]; omega
                      · rw [hgo] at hGoes
                        by_cases hn1 : 1 < n0
                        · have HYes := Lib.hid (rowE_yes (g := g) (good := good) (a := k) (k := m) hgo (by rw [HGd.out]; simpa using hn1)); clear hgo
                          have hEl : (E ++ rowE g good k m).length ≤ 110 := by rw [List.length_append]; omega
                          go_wp2_with (first | (go_at_call 53; refine hGoes.out.mono ?_; rintro e w3 ⟨rfl, rfl⟩) | (at_builtin; refine wpList_append_own _ rfl _ _ 28 rfl w1.heap.size 50 i0 (.agg #[.int .i64 0, .int .i64 0]) 2 16 Try.underlying28 hi hz0 hz1 hz2 rfl (by decide) _ _ _ rfl (HO2.out.alloc _) ⟨wr.heap.size, 0, none⟩ 1 1 [.int .i64 k, .int .i64 m] rfl rfl (pair_new _ _ _ _) two_one (by unfold maxLen; omega) (by omega) (by have := HBl2.out.size; simp; omega) ?_; intro v' w4 hown' hgrow _))
                          have hb1 := (HBl2.out.alloc HBl2.out.size _).grown hgrow (by have := HBl2.out.size; simp; omega) (fun k hk => (HO2.out.lt k hk).1)
                          have HO4 := Lib.hid hown'
                          have HB4 := Lib.hid hb1
                          clear hown' hgrow hb1
                          go_wp2_with fail
                          go_roundw
                          case rel => exact ⟨m + 1, by omega, by go_num, by rw [HYes.out, ← List.append_assoc, encP_snoc, List.length_append]; exact HO4.out, HB4.out⟩
                          case measure => simp [intOf]; omega
                        · have HNo := Lib.hid (rowE_no (g := g) (good := good) (a := k) (k := m) (by rw [HGd.out]; simp; intro _; omega)); clear hgo
                          go_wp2_with (first | (go_at_call 53; refine hGoes.out.mono ?_; rintro e w3 ⟨rfl, rfl⟩))
                          go_roundw
                          case rel => exact ⟨m + 1, by omega, by go_num, by rw [HNo.out]; exact HO2.out, HBl2.out⟩
                          case measure => simp [intOf]; omega
                · obtain rfl : m = g.length := by omega
                  have HO2 := Lib.hid hown; have HBl2 := Lib.hid hbl
                  clear hown hbl
                  go_wp2_with fail
                  go_roundw
                  case rel => exact ⟨k + 1, by omega, by go_num, by rw [HNx.out]; exact HO2.out, HBl2.out⟩
                  case measure => simp [intOf]; omega
          · have HNo := Lib.hid (rowE_none (g := g) (good := good) (a := k) (k := g.length) (fun b => by rw [HGood.out]; unfold goodCrit; simp [h2])); clear hS
            clear hrow
            generalize (succ g k).length = n at *
            have hn2 : (n : Int) < 2 := by omega
            go_wp2_with fail
            go_quiet (fail)
            go_wp2_with fail
            go_roundw
            case rel => exact ⟨k + 1, by omega, by go_num, by rw [HNx.out, HNo.out, List.append_nil]; exact HO.out, below_drewN HBl.out _⟩
            case measure => simp [intOf]; omega
      · obtain rfl : k = g.length := by omega
        have HO := Lib.hid hown; have HBl := Lib.hid hbl
        clear hown hbl
        go_wp2_with fail
        go_ret2
        exact ⟨_, rfl, by rw [← HE.out]; exact pairSl_of_owns HO.out, HB.out.trans (HBl.out.mono HB.out.size)⟩
  · have hn : critR g0 = [] := by unfold critR; rw [if_neg hv]
    rw [hn]
    generalize validE g0 = V at *
    have hvb : (V != 0) = true := by simpa using hv
    clear hv hn
    go_enter Try.func16, Try.ntmps16
    go_wp2_with fail
    refine HV.out.mono ?_; rintro e w1 ⟨rfl, rfl⟩
    go_wp2_with fail
    go_ret2
    exact ⟨_, rfl, PairSl.nil _, Below.refl _ _⟩
end Go.Proofs.Ytmljmmnofhhheaa
