/- Walks of the document's backs, Backs. -/
import Derived.Test.YtmljmmnofhhheaaWG
namespace Go.Proofs.Ytmljmmnofhhheaa
open Go.RowKit

set_option maxRecDepth 100000 in
set_option maxHeartbeats 4000000 in
theorem rBacks_any (a : Option Addr) (cap : Nat) (g : Gr) (w : World) (hg : GraphIn w a g) (ok : OkG g) :
    Calls Try.prog 68 #[.slice a g.length cap] w (PairPost (backsL g) w) := by
  have h10 := ok.ten
  have HR := Lib.hid (rReach_any a cap g 0 (-1) w hg ok ok.pos)
  have HG := Lib.hid hg
  have HE := Lib.hid (edgesL_range ok (goodBack g))
  unfold backsL
  clear hg
  obtain ⟨i0, hi, hz0, hz1, hz2⟩ := info_parts Try.infoPair
  go_enter Try.func68, Try.ntmps68
  go_wp2_with fail
  refine HR.out.mono ?_; rintro e w1 ⟨v, rfl, ⟨q, rcap, rfl, hbs⟩, hb1⟩
  have HB := Lib.hid hb1; have HBS := Lib.hid hbs
  clear hb1 hbs
  generalize hSS : rs g (-1) 0 = S at *
  clear hSS
  generalize hgd2 : (fun a b => S a && goodBack g a b) = good at *
  have HGood : Hid (∀ x m, good x m = (S x && domB g m x)) := Lib.hid fun x m => by rw [← hgd2]; rfl
  clear hgd2
  go_wp2_with fail
  go_loopw [4, 5] (fun tv i wr => ∃ k : Nat, k ≤ g.length ∧ i = .int .i64 k ∧ wr.ownsRow w1.heap.size 50 2 tv (edgesUpto g good (List.range g.length) k).length (encP (edgesUpto g good (List.range g.length) k)) ∧ Below w1.heap.size w1 wr) (fun _ i _ => g.length - (intOf i).toNat)
  case atStart => exact ⟨0, Nat.zero_le _, rfl, World.ownsRow_nil _ _ _ _, Below.refl _ _⟩
  case round =>
    obtain ⟨k, hk, rfl, hown, hbl⟩ := hrel
    by_cases hlt : k < g.length
    · have hel := edgesUpto_len g good (List.range g.length) k
      have helk : (edgesUpto g good (List.range g.length) k).length ≤ 100 := Nat.le_trans hel (by
        have : k * g.length ≤ 10 * 10 := Nat.mul_le_mul (by omega) h10
        omega)
      have hnx := edgesUpto_next (g := g) (good := good) (l := List.range g.length) (i := k) (by simpa using hlt)
      rw [range_getD hlt] at hnx
      have HNx := Lib.hid hnx
      have HO := Lib.hid hown; have HBl := Lib.hid hbl
      clear hown hbl hel hnx
      generalize edgesUpto g good (List.range g.length) k = E at *
      go_wp2_with fail
      go_loopw [4, 6] (fun tv i wr => ∃ m : Nat, m ≤ g.length ∧ i = .int .i64 m ∧ wr.ownsRow w1.heap.size 50 2 tv (E ++ rowE g good k m).length (encP (E ++ rowE g good k m)) ∧ Below w1.heap.size w1 wr) (fun _ i _ => g.length - (intOf i).toNat)
      case atStart => exact ⟨0, Nat.zero_le _, rfl, by simpa [rowE, setUpto] using HO.out, HBl.out⟩
      case round =>
        obtain ⟨m, hm, rfl, hown, hbl⟩ := hrel
        by_cases hml : m < g.length
        · have hbw := HB.out.trans (hbl.mono HB.out.size)
          have hcell := keep (HBS.out k hlt) hbl
          have hGoes := Lib.hid (rGoes_any a cap g k m wr (HG.out.below hbw) ok hlt)
          have hDom := Lib.hid (rDominates_any g a cap m k wr (HG.out.below hbw) ok hlt)
          have hrl := rowE_len g good k m
          have hgood := HGood.out k m
          have HBl2 := Lib.hid hbl
          clear hbw hbl
          cases hS : S k
          · rw [hS] at hcell
            have HNo := Lib.hid (rowE_no (g := g) (good := good) (a := k) (k := m) (by rw [hgood, hS]; simp)); clear hS hgood
            have HO2 := Lib.hid hown; clear hown
            go_wp2_with fail
            go_roundw
            case rel => exact ⟨m + 1, by omega, by go_num, by rw [HNo.out]; exact HO2.out, HBl2.out⟩
            case measure => simp [intOf]; omega
          · rw [hS] at hcell
            cases hgo : goesI g k m
            · rw [hgo] at hGoes
              have HNo := Lib.hid (rowE_no (g := g) (good := good) (a := k) (k := m) (by rw [hgo]; rfl)); clear hgo hS hgood
              have HO2 := Lib.hid hown; clear hown
              go_wp2_with (first | (go_at_call 53; refine hGoes.out.mono ?_; rintro e w3 ⟨rfl, rfl⟩))
              go_roundw
              case rel => exact ⟨m + 1, by omega, by go_num, by rw [HNo.out]; exact HO2.out, HBl2.out⟩
              case measure => simp [intOf]; omega
            · rw [hgo] at hGoes
              cases hgd : domB g m k
              · rw [hgd] at hDom
                have HNo := Lib.hid (rowE_no (g := g) (good := good) (a := k) (k := m) (by rw [hgood, hgd]; simp)); clear hgo hgd hS hgood
                have HO2 := Lib.hid hown; clear hown
                go_wp2_with (first | (go_at_call 53; refine hGoes.out.mono ?_; rintro e w3 ⟨rfl, rfl⟩) | (go_at_call 49; refine hDom.out.mono ?_; rintro e w3 ⟨rfl, hb3⟩))
                have HO3 := Lib.hid (HO2.out.kept (row := none) ⟨hb3.os, hb3.tape, hb3.output, hb3.size, fun k hk _ => hb3.block k hk⟩ (by cases hv : Value.ownBlock _ <;> simp))
                go_roundw
                case rel => exact ⟨m + 1, by omega, by go_num, by rw [HNo.out]; exact HO3.out, HBl2.out.trans (hb3.mono HBl2.out.size)⟩
                case measure => simp [intOf]; omega
              · rw [hgd] at hDom
                have HYes := Lib.hid (rowE_yes (g := g) (good := good) (a := k) (k := m) hgo (by rw [hgood, hS, hgd]; rfl)); clear hgo hgd hS hgood
                have HO2 := Lib.hid hown; clear hown
                go_wp2_with (first | (go_at_call 53; refine hGoes.out.mono ?_; rintro e w3 ⟨rfl, rfl⟩))
                refine hDom.out.mono ?_; rintro e w3 ⟨rfl, hb3⟩
                have HO3 := Lib.hid (HO2.out.kept (row := none) ⟨hb3.os, hb3.tape, hb3.output, hb3.size, fun k hk _ => hb3.block k hk⟩ (by cases hv : Value.ownBlock _ <;> simp))
                have HB3 := Lib.hid (HBl2.out.trans (hb3.mono HBl2.out.size))
                clear hb3
                have hEl : (E ++ rowE g good k m).length ≤ 110 := by rw [List.length_append]; omega
                go_wp2_with (at_builtin; refine wpList_append_own _ rfl _ _ 28 rfl w1.heap.size 50 i0 (.agg #[.int .i64 0, .int .i64 0]) 2 16 Try.underlying28 hi hz0 hz1 hz2 rfl (by decide) _ _ _ rfl (HO3.out.alloc _) ⟨w3.heap.size, 0, none⟩ 1 1 [.int .i64 k, .int .i64 m] rfl rfl (pair_new _ _ _ _) two_one (by unfold maxLen; omega) (by omega) (by have := HB3.out.size; simp; omega) ?_; intro v' w4 hown' hgrow _)
                have hb1 := (HB3.out.alloc HB3.out.size _).grown hgrow (by have := HB3.out.size; simp; omega) (fun k hk => (HO3.out.lt k hk).1)
                have HO4 := Lib.hid hown'
                have HB4 := Lib.hid hb1
                clear hown' hgrow hb1
                go_wp2_with fail
                go_roundw
                case rel => exact ⟨m + 1, by omega, by go_num, by rw [HYes.out, ← List.append_assoc, encP_snoc, List.length_append]; exact HO4.out, HB4.out⟩
                case measure => simp [intOf]; omega
        · obtain rfl : m = g.length := by omega
          have HO2 := Lib.hid hown; have HBl2 := Lib.hid hbl
          clear hown hbl
          go_wp2_with fail
          go_roundw
          case rel => exact ⟨k + 1, by omega, by go_num, by rw [HNx.out]; exact HO2.out, HBl2.out⟩
          case measure => simp [intOf]; omega
    · obtain rfl : k = g.length := by omega
      have HO := Lib.hid hown; have HBl := Lib.hid hbl
      clear hown hbl
      go_wp2_with fail
      go_ret
      exact ⟨_, rfl, by rw [← HE.out]; exact pairSl_of_owns HO.out, HB.out.trans (HBl.out.mono HB.out.size)⟩

set_option maxHeartbeats 1000000 in
theorem rrBacks_any (g : List (List Int)) (a : Option Addr) (cap : Nat) (w : World) (hin : RowsIn w a g) (hs : Short g) :
    Calls Try.prog 36 #[.slice a g.length cap] w (PairsPost (validE g) (backsR g) w) := by
  have HV := Lib.hid (rValidate_any g a cap w hin hs)
  by_cases hv : validE g = 0
  · have hn : backsR g = backsL (gN g) := by unfold backsR; rw [if_pos hv]
    have ok := valid_ok hv
    have HR : Hid (Calls Try.prog 68 #[.slice a g.length cap] w (PairPost (backsL (gN g)) w)) := Lib.hid (by
      have := rBacks_any a cap (gN g) w (hin.graph hv) ok
      rwa [gN_len] at this)
    rw [hn]; rw [hv] at HV; rw [hv]
    clear hin hs hv ok hn
    go_enter Try.func36, Try.ntmps36
    go_wp2_with fail
    refine HV.out.mono ?_; rintro e w1 ⟨rfl, rfl⟩
    go_wp2_with fail
    refine HR.out.mono ?_; rintro e w2 ⟨v, rfl, hp, hb2⟩
    go_wp2_with fail
    go_ret2
    exact ⟨v, rfl, hp, hb2⟩
  · have hn : backsR g = [] := by unfold backsR; rw [if_neg hv]
    rw [hn]
    generalize validE g = V at *
    have hvb : (V != 0) = true := by simpa using hv
    clear hv hn
    go_enter Try.func36, Try.ntmps36
    go_wp2_with fail
    refine HV.out.mono ?_; rintro e w1 ⟨rfl, rfl⟩
    go_wp2_with fail
    go_ret2
    exact ⟨_, rfl, PairSl.nil _, Below.refl _ _⟩
end Go.Proofs.Ytmljmmnofhhheaa
