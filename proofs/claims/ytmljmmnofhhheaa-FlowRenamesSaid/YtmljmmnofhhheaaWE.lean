/- Walks of edges at its other closures. -/
import Derived.Test.YtmljmmnofhhheaaWD
namespace Go.Proofs.Ytmljmmnofhhheaa
open Go.RowKit

set_option maxRecDepth 100000 in
set_option maxHeartbeats 4000000 in
theorem edges_fwd (pg : Nat) (a : Option Addr) (cap : Nat) (g : Gr) (good : Nat → Nat → Bool) (w : World) (hg : GraphIn w a g) (ok : OkG g)
    (hgood : ∀ x y w', x < g.length → y < g.length → Below w.heap.size w w' → Calls Try.prog 42 #[.int .i64 (x : Nat), .int .i64 (y : Nat), .pointer (some ⟨pg, 0, none⟩)] w' fun e w'' => e = .returned (.bool (good x y)) ∧ Below w'.heap.size w' w'') :
    Calls Try.prog 41 #[.slice a g.length cap, .func (.func 42) #[] #[.pointer (some ⟨pg, 0, none⟩)]] w fun e w' => ∃ v, e = .returned v ∧ PairSl w' v (edgesL g good) ∧ Below w.heap.size w w' := by
  have h10 := ok.ten
  have HR := Lib.hid (reach_any a cap g (-1) w hg ok)
  have HG := Lib.hid hg
  have HGd := Lib.hid hgood
  have hLlt : ∀ k, k < (setL (rs g (-1) 0)).length → (setL (rs g (-1) 0)).getD k 0 < g.length := fun k hk => by
    have := (setL_mem.1 (getD_mem_any 0 hk)).2
    exact (rs_iff.1 this).lt ok.fits ok.pos
  have hLlen : (setL (rs g (-1) 0)).length ≤ 10 := setUpto_len _ 10
  have HLt := Lib.hid hLlt
  unfold edgesL
  clear hg hgood hLlt
  obtain ⟨i0, hi, hz0, hz1, hz2⟩ := info_parts Try.infoPair
  go_enter Try.func41, Try.ntmps41
  go_wp2_with fail
  refine HR.out.mono ?_; rintro e w1 ⟨rfl, hb1⟩
  go_wp2_with fail
  refine (list_any _ _).mono ?_; rintro e w2 ⟨v, rfl, ⟨la, lcap, rfl, hl⟩, hb2⟩
  have HB := Lib.hid (hb1.trans (hb2.mono hb1.size))
  have HL := Lib.hid hl
  clear hb1 hb2 hl
  generalize hLL : setL (rs g (-1) 0) = L at *
  have HLL := Lib.hid hLL; clear hLL
  go_wp2_with fail
  go_loopw [5, 13] (fun tv i wr => ∃ k : Nat, k ≤ L.length ∧ i = .int .i64 k ∧ wr.ownsRow w2.heap.size 50 2 tv (edgesUpto g good L k).length (encP (edgesUpto g good L k)) ∧ Below w2.heap.size w2 wr) (fun _ i _ => L.length - (intOf i).toNat)
  case atStart => exact ⟨0, Nat.zero_le _, rfl, World.ownsRow_nil _ _ _ _, Below.refl _ _⟩
  case round =>
    obtain ⟨k, hk, rfl, hown, hbl⟩ := hrel
    by_cases hlt : k < L.length
    · obtain ⟨b, off, rfl, hx⟩ := HL.out.below hbl k hlt
      have hxl := HLt.out k hlt
      have hel := edgesUpto_len g good L k
      have helk : (edgesUpto g good L k).length ≤ 100 := Nat.le_trans hel (by
        have : k * g.length ≤ 10 * 10 := Nat.mul_le_mul (by omega) h10
        omega)
      have HNx := Lib.hid (edgesUpto_next (g := g) (good := good) hlt)
      have HO := Lib.hid hown; have HBl := Lib.hid hbl
      clear hown hbl hel
      generalize hxx : L.getD k 0 = x at *
      have HX := Lib.hid hxx; clear hxx
      generalize edgesUpto g good L k = E at *
      obtain ⟨gb, goff, a', cap', rfl, hcell0, hrow0⟩ := HG.out x hxl
      have HC0 := Lib.hid hcell0; have HR0 := Lib.hid hrow0
      clear hcell0 hrow0
      go_wp2_with fail
      go_loopw [5, 19] (fun tv i wr => ∃ m : Nat, m ≤ g.length ∧ i = .int .i64 m ∧ wr.ownsRow w2.heap.size 50 2 tv (E ++ rowE g good x m).length (encP (E ++ rowE g good x m)) ∧ Below w2.heap.size w2 wr) (fun _ i _ => g.length - (intOf i).toNat)
      case atStart => exact ⟨0, Nat.zero_le _, rfl, by simpa [rowE, setUpto] using HO.out, HBl.out⟩
      case round =>
        obtain ⟨m, hm, rfl, hown, hbl⟩ := hrel
        by_cases hml : m < g.length
        · have hbw := HB.out.trans (hbl.mono HB.out.size)
          have hcell := keep HC0.out hbw
          have hCon := Lib.hid (containsN_any g x a' cap' m wr (HR0.out.below hbw) ok)
          have hGood := Lib.hid (HGd.out x m wr hxl hml hbw)
          have hrl := rowE_len g good x m
          have HBl2 := Lib.hid hbl
          clear hbw hbl
          cases hgo : goesI g x m
          · rw [hgo] at hCon
            have HNo := Lib.hid (rowE_no (good := good) (by rw [hgo]; rfl)); clear hgo
            have HO2 := Lib.hid hown; clear hown
            go_wp2_with (first | (go_at_call 71; refine hCon.out.mono ?_; rintro e w3 ⟨rfl, rfl⟩))
            go_roundw
            case rel => exact ⟨m + 1, by omega, by go_num, by rw [HNo.out]; exact HO2.out, HBl2.out⟩
            case measure => simp [intOf]; omega
          · rw [hgo] at hCon
            cases hgd : good x m
            · rw [hgd] at hGood
              have HNo := Lib.hid (rowE_no (good := good) (by rw [hgo, hgd]; rfl)); clear hgo hgd
              have HO2 := Lib.hid hown; clear hown
              go_wp2_with (first | (go_at_call 71; refine hCon.out.mono ?_; rintro e w3 ⟨rfl, rfl⟩) | (go_at_call 42; refine hGood.out.mono ?_; rintro e w3 ⟨rfl, hb3⟩))
              have HO3 := Lib.hid (HO2.out.kept (row := none) ⟨hb3.os, hb3.tape, hb3.output, hb3.size, fun k hk _ => hb3.block k hk⟩ (by cases hv : Value.ownBlock _ <;> simp))
              go_roundw
              case rel => exact ⟨m + 1, by omega, by go_num, by rw [HNo.out]; exact HO3.out, HBl2.out.trans (hb3.mono HBl2.out.size)⟩
              case measure => simp [intOf]; omega
            · rw [hgd] at hGood
              have HYes := Lib.hid (rowE_yes (good := good) hgo hgd); clear hgo hgd
              have HO2 := Lib.hid hown; clear hown
              go_wp2_with (first | (go_at_call 71; refine hCon.out.mono ?_; rintro e w3 ⟨rfl, rfl⟩))
              refine hGood.out.mono ?_; rintro e w3 ⟨rfl, hb3⟩
              have HO3 := Lib.hid (HO2.out.kept (row := none) ⟨hb3.os, hb3.tape, hb3.output, hb3.size, fun k hk _ => hb3.block k hk⟩ (by cases hv : Value.ownBlock _ <;> simp))
              have HB3 := Lib.hid (HBl2.out.trans (hb3.mono HBl2.out.size))
              clear hb3
              have hEl : (E ++ rowE g good x m).length ≤ 110 := by rw [List.length_append]; omega
              go_wp2_with (at_builtin; refine wpList_append_own _ rfl _ _ 28 rfl w2.heap.size 50 i0 (.agg #[.int .i64 0, .int .i64 0]) 2 16 Try.underlying28 hi hz0 hz1 hz2 rfl (by decide) _ _ _ rfl (HO3.out.alloc _) ⟨w3.heap.size, 0, none⟩ 1 1 [.int .i64 x, .int .i64 m] rfl rfl (pair_new _ _ _ _) two_one (by unfold maxLen; omega) (by omega) (by have := HB3.out.size; simp; omega) ?_; intro v' w4 hown' hgrow _)
              have hb1 := (HB3.out.alloc HB3.out.size _).grown hgrow (by have := HB3.out.size; simp; omega) (fun k hk => (HO3.out.lt k hk).1)
              have HO4 := Lib.hid hown'
              have HB4 := Lib.hid hb1
              clear hown' hgrow hb1
              go_wp2_with fail
              go_roundw
              case rel => exact ⟨m + 1, by omega, by go_num, by rw [HYes.out, ← List.append_assoc, encP_snoc, List.length_append]; exact HO4.out, HB4.out⟩
              case measure => simp [intOf]; omega
        · obtain rfl : m = g.length := by omega
          have HO2 := Lib.hid hown; have HBl2 := Lib.hid hbl
          clear hown hbl
          go_wp2_with fail
          go_roundw
          case rel => exact ⟨k + 1, by omega, by go_num, by rw [HNx.out]; exact HO2.out, HBl2.out⟩
          case measure => simp [intOf]; omega
    · obtain rfl : k = L.length := by omega
      have HO := Lib.hid hown; have HBl := Lib.hid hbl
      clear hown hbl
      go_wp2_with fail
      go_ret
      exact ⟨_, rfl, by rw [HLL.out]; exact pairSl_of_owns HO.out, HB.out.trans (HBl.out.mono HB.out.size)⟩

set_option maxRecDepth 100000 in
set_option maxHeartbeats 4000000 in
theorem edges_crit (pg : Nat) (a : Option Addr) (cap : Nat) (g : Gr) (good : Nat → Nat → Bool) (w : World) (hg : GraphIn w a g) (ok : OkG g)
    (hgood : ∀ x y w', x < g.length → y < g.length → Below w.heap.size w w' → Calls Try.prog 51 #[.int .i64 (x : Nat), .int .i64 (y : Nat), .pointer (some ⟨pg, 0, none⟩)] w' fun e w'' => e = .returned (.bool (good x y)) ∧ Below w'.heap.size w' w'') :
    Calls Try.prog 41 #[.slice a g.length cap, .func (.func 51) #[] #[.pointer (some ⟨pg, 0, none⟩)]] w fun e w' => ∃ v, e = .returned v ∧ PairSl w' v (edgesL g good) ∧ Below w.heap.size w w' := by
  have h10 := ok.ten
  have HR := Lib.hid (reach_any a cap g (-1) w hg ok)
  have HG := Lib.hid hg
  have HGd := Lib.hid hgood
  have hLlt : ∀ k, k < (setL (rs g (-1) 0)).length → (setL (rs g (-1) 0)).getD k 0 < g.length := fun k hk => by
    have := (setL_mem.1 (getD_mem_any 0 hk)).2
    exact (rs_iff.1 this).lt ok.fits ok.pos
  have hLlen : (setL (rs g (-1) 0)).length ≤ 10 := setUpto_len _ 10
  have HLt := Lib.hid hLlt
  unfold edgesL
  clear hg hgood hLlt
  obtain ⟨i0, hi, hz0, hz1, hz2⟩ := info_parts Try.infoPair
  go_enter Try.func41, Try.ntmps41
  go_wp2_with fail
  refine HR.out.mono ?_; rintro e w1 ⟨rfl, hb1⟩
  go_wp2_with fail
  refine (list_any _ _).mono ?_; rintro e w2 ⟨v, rfl, ⟨la, lcap, rfl, hl⟩, hb2⟩
  have HB := Lib.hid (hb1.trans (hb2.mono hb1.size))
  have HL := Lib.hid hl
  clear hb1 hb2 hl
  generalize hLL : setL (rs g (-1) 0) = L at *
  have HLL := Lib.hid hLL; clear hLL
  go_wp2_with fail
  go_loopw [5, 13] (fun tv i wr => ∃ k : Nat, k ≤ L.length ∧ i = .int .i64 k ∧ wr.ownsRow w2.heap.size 50 2 tv (edgesUpto g good L k).length (encP (edgesUpto g good L k)) ∧ Below w2.heap.size w2 wr) (fun _ i _ => L.length - (intOf i).toNat)
  case atStart => exact ⟨0, Nat.zero_le _, rfl, World.ownsRow_nil _ _ _ _, Below.refl _ _⟩
  case round =>
    obtain ⟨k, hk, rfl, hown, hbl⟩ := hrel
    by_cases hlt : k < L.length
    · obtain ⟨b, off, rfl, hx⟩ := HL.out.below hbl k hlt
      have hxl := HLt.out k hlt
      have hel := edgesUpto_len g good L k
      have helk : (edgesUpto g good L k).length ≤ 100 := Nat.le_trans hel (by
        have : k * g.length ≤ 10 * 10 := Nat.mul_le_mul (by omega) h10
        omega)
      have HNx := Lib.hid (edgesUpto_next (g := g) (good := good) hlt)
      have HO := Lib.hid hown; have HBl := Lib.hid hbl
      clear hown hbl hel
      generalize hxx : L.getD k 0 = x at *
      have HX := Lib.hid hxx; clear hxx
      generalize edgesUpto g good L k = E at *
      obtain ⟨gb, goff, a', cap', rfl, hcell0, hrow0⟩ := HG.out x hxl
      have HC0 := Lib.hid hcell0; have HR0 := Lib.hid hrow0
      clear hcell0 hrow0
      go_wp2_with fail
      go_loopw [5, 19] (fun tv i wr => ∃ m : Nat, m ≤ g.length ∧ i = .int .i64 m ∧ wr.ownsRow w2.heap.size 50 2 tv (E ++ rowE g good x m).length (encP (E ++ rowE g good x m)) ∧ Below w2.heap.size w2 wr) (fun _ i _ => g.length - (intOf i).toNat)
      case atStart => exact ⟨0, Nat.zero_le _, rfl, by simpa [rowE, setUpto] using HO.out, HBl.out⟩
      case round =>
        obtain ⟨m, hm, rfl, hown, hbl⟩ := hrel
        by_cases hml : m < g.length
        · have hbw := HB.out.trans (hbl.mono HB.out.size)
          have hcell := keep HC0.out hbw
          have hCon := Lib.hid (containsN_any g x a' cap' m wr (HR0.out.below hbw) ok)
          have hGood := Lib.hid (HGd.out x m wr hxl hml hbw)
          have hrl := rowE_len g good x m
          have HBl2 := Lib.hid hbl
          clear hbw hbl
          cases hgo : goesI g x m
          · rw [hgo] at hCon
            have HNo := Lib.hid (rowE_no (good := good) (by rw [hgo]; rfl)); clear hgo
            have HO2 := Lib.hid hown; clear hown
            go_wp2_with (first | (go_at_call 71; refine hCon.out.mono ?_; rintro e w3 ⟨rfl, rfl⟩))
            go_roundw
            case rel => exact ⟨m + 1, by omega, by go_num, by rw [HNo.out]; exact HO2.out, HBl2.out⟩
            case measure => simp [intOf]; omega
          · rw [hgo] at hCon
            cases hgd : good x m
            · rw [hgd] at hGood
              have HNo := Lib.hid (rowE_no (good := good) (by rw [hgo, hgd]; rfl)); clear hgo hgd
              have HO2 := Lib.hid hown; clear hown
              go_wp2_with (first | (go_at_call 71; refine hCon.out.mono ?_; rintro e w3 ⟨rfl, rfl⟩) | (go_at_call 51; refine hGood.out.mono ?_; rintro e w3 ⟨rfl, hb3⟩))
              have HO3 := Lib.hid (HO2.out.kept (row := none) ⟨hb3.os, hb3.tape, hb3.output, hb3.size, fun k hk _ => hb3.block k hk⟩ (by cases hv : Value.ownBlock _ <;> simp))
              go_roundw
              case rel => exact ⟨m + 1, by omega, by go_num, by rw [HNo.out]; exact HO3.out, HBl2.out.trans (hb3.mono HBl2.out.size)⟩
              case measure => simp [intOf]; omega
            · rw [hgd] at hGood
              have HYes := Lib.hid (rowE_yes (good := good) hgo hgd); clear hgo hgd
              have HO2 := Lib.hid hown; clear hown
              go_wp2_with (first | (go_at_call 71; refine hCon.out.mono ?_; rintro e w3 ⟨rfl, rfl⟩))
              refine hGood.out.mono ?_; rintro e w3 ⟨rfl, hb3⟩
              have HO3 := Lib.hid (HO2.out.kept (row := none) ⟨hb3.os, hb3.tape, hb3.output, hb3.size, fun k hk _ => hb3.block k hk⟩ (by cases hv : Value.ownBlock _ <;> simp))
              have HB3 := Lib.hid (HBl2.out.trans (hb3.mono HBl2.out.size))
              clear hb3
              have hEl : (E ++ rowE g good x m).length ≤ 110 := by rw [List.length_append]; omega
              go_wp2_with (at_builtin; refine wpList_append_own _ rfl _ _ 28 rfl w2.heap.size 50 i0 (.agg #[.int .i64 0, .int .i64 0]) 2 16 Try.underlying28 hi hz0 hz1 hz2 rfl (by decide) _ _ _ rfl (HO3.out.alloc _) ⟨w3.heap.size, 0, none⟩ 1 1 [.int .i64 x, .int .i64 m] rfl rfl (pair_new _ _ _ _) two_one (by unfold maxLen; omega) (by omega) (by have := HB3.out.size; simp; omega) ?_; intro v' w4 hown' hgrow _)
              have hb1 := (HB3.out.alloc HB3.out.size _).grown hgrow (by have := HB3.out.size; simp; omega) (fun k hk => (HO3.out.lt k hk).1)
              have HO4 := Lib.hid hown'
              have HB4 := Lib.hid hb1
              clear hown' hgrow hb1
              go_wp2_with fail
              go_roundw
              case rel => exact ⟨m + 1, by omega, by go_num, by rw [HYes.out, ← List.append_assoc, encP_snoc, List.length_append]; exact HO4.out, HB4.out⟩
              case measure => simp [intOf]; omega
        · obtain rfl : m = g.length := by omega
          have HO2 := Lib.hid hown; have HBl2 := Lib.hid hbl
          clear hown hbl
          go_wp2_with fail
          go_roundw
          case rel => exact ⟨k + 1, by omega, by go_num, by rw [HNx.out]; exact HO2.out, HBl2.out⟩
          case measure => simp [intOf]; omega
    · obtain rfl : k = L.length := by omega
      have HO := Lib.hid hown; have HBl := Lib.hid hbl
      clear hown hbl
      go_wp2_with fail
      go_ret
      exact ⟨_, rfl, by rw [HLL.out]; exact pairSl_of_owns HO.out, HB.out.trans (HBl.out.mono HB.out.size)⟩

end Go.Proofs.Ytmljmmnofhhheaa
