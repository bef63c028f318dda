/- The law TraceCuts. -/
import Derived.Test.YtmhneonebjcieaaPC
import Derived.Test.YtmhneonebjcieaaCV
import Derived.Test.YtmhneonebjcieaaL2
import Derived.Test.YtmhneonebjcieaaL4
import Derived.Deep.Cut
namespace Go.Proofs.Ytmhneonebjcieaa
open Go.RowKit

theorem cut_form {l : List Pl} {f t : Int} {B : Nat} {u : Value} {w : World} (hE : askedE l 0 [f, t] = 0) (h : CutPost l f t B u w) : ∃ a cap, u = .slice a (cutP l f t).length cap ∧ (cutP l f t).length ≤ cap ∧ PlsIn w a (cutP l f t) := by
  unfold CutPost at h
  rw [if_pos hE] at h
  have h : w.ownsRow B 38 5 u (cutP l f t).length (encPl (cutP l f t)) := by
    show w.ownsRow B 38 5 u (sortP (cutK l f t l.length)).length _
    rw [sortP_len]; exact h
  exact plSl_of_owns h
theorem cut_nil {l : List Pl} {f t : Int} {B : Nat} {u : Value} {w : World} (hE : askedE l 0 [f, t] ≠ 0) (h : CutPost l f t B u w) : u = .slice none 0 0 := by
  unfold CutPost at h
  rw [if_neg hE] at h
  exact h
/-- The three addresses that are tried. -/
def atK (x : Pl) (f : Int) : Nat → Int
  | 0 => x.fr
  | 1 => x.to - 1
  | _ => max x.fr (min (x.to - 1) f)
theorem idx0 (a b c : Int) (w : World) : (Instr.index 62 (.agg #[.int .i64 a, .int .i64 b, .int .i64 c]) (.int .i64 0)).run Try.prog w = .ok (.int .i64 a) w := by kernel_rfl
theorem idx1 (a b c : Int) (w : World) : (Instr.index 62 (.agg #[.int .i64 a, .int .i64 b, .int .i64 c]) (.int .i64 1)).run Try.prog w = .ok (.int .i64 b) w := by kernel_rfl
theorem idx2 (a b c : Int) (w : World) : (Instr.index 62 (.agg #[.int .i64 a, .int .i64 b, .int .i64 c]) (.int .i64 2)).run Try.prog w = .ok (.int .i64 c) w := by kernel_rfl
set_option maxRecDepth 100000 in
set_option maxHeartbeats 4000000 in
theorem traceCuts_any (l : List Pl) (a : Option Addr) (cap : Nat) (f t : Int) (w : World) (hin : PlsIn w a l) (hlc : l.length ≤ cap) :
    Calls Try.prog 12 #[.slice a l.length cap, .int .i64 f, .int .i64 t] w fun e w' => e = .returned (.bool true) ∧ Below w.heap.size w w' := by
  have HK := Lib.hid known_any
  by_cases h100 : 100 < l.length
  · clear hin
    go_enter Try.func12, Try.ntmps12
    go_wp2_with ((with_reducible refine (long_yes h100 a cap _).mono ?_); rintro e w1 ⟨rfl, rfl⟩)
    refine (HK.out _).mono ?_; rintro e w2 ⟨rfl, hb2⟩
    go_wp2_with fail
    go_ret
    exact ⟨rfl, hb2⟩
  have HLo := Lib.hid (long_no h100 a cap w)
  have HF := Lib.hid (Cut_any l a cap f t w hin hlc (by omega))
  have HR := Lib.hid (fun (w' : World) (hb : Below w.heap.size w w') => rCut_any l a cap f t w' (hin.below hb) (by omega))
  have HI := Lib.hid hin
  clear hin
  by_cases hE : askedE l 0 [f, t] = 0
  rotate_left
  · have HNil := Lib.hid (fun B v w h => @cut_nil l f t B v w hE h)
    have hne : (askedE l 0 [f, t] != 0) = true := bne_iff_ne.2 hE
    have hee : (askedE l 0 [f, t] != askedE l 0 [f, t]) = false := by simp
    generalize askedE l 0 [f, t] = E at *
    clear hE
    go_enter Try.func12, Try.ntmps12
    go_wp2_with fail
    refine HLo.out.mono ?_; rintro e w0 ⟨rfl, rfl⟩
    go_wp2_with fail
    refine HF.out.mono ?_; rintro e w1 ⟨⟨v1, rfl, hp1⟩, hb1⟩
    obtain rfl := HNil.out _ _ _ hp1
    have HB1 := Lib.hid hb1
    clear hp1 hb1
    go_wp2_with fail
    refine (HR.out w1 HB1.out).mono ?_; rintro e w2 ⟨⟨v2, rfl, hp2⟩, hb2⟩
    obtain rfl := HNil.out _ _ _ hp2
    have HB2 := Lib.hid (HB1.out.trans (hb2.mono HB1.out.size))
    clear hp2 hb2 HR HF
    go_wp2_with fail
    refine (same_nil _).mono ?_; rintro e w3 ⟨rfl, hb3⟩
    have HB3 := Lib.hid (HB2.out.trans (hb3.mono HB2.out.size))
    clear hb3
    go_wp2_with fail
    refine (HK.out _).mono ?_; rintro e w5 ⟨rfl, hb5⟩
    go_wp2_with fail
    go_ret
    exact ⟨rfl, HB3.out.trans (hb5.mono HB3.out.size)⟩
  have HForm := Lib.hid (fun B v w h => @cut_form l f t B v w hE h)
  have hml : (cutP l f t).length ≤ l.length := by
    show (sortP (cutK l f t l.length)).length ≤ _
    rw [sortP_len]; exact cutK_len _ _ _ _
  have HSm := Lib.hid (fun a a' cap cap' w h1 h2 => @same_self (cutP l f t) a a' cap cap' w h1 h2 (by omega))
  have HFnd := Lib.hid (fun (i : Nat) (hi : i < l.length) (ad : Int) (h1 : (at' l i).fr ≤ ad) (h2 : ad < (at' l i).to) => cut_fnd hE hi h1 h2)
  have HFi := Lib.hid (fun a cap v ad w h1 h2 => Find_any (cutP l f t) a cap v ad w h1 h2 (by omega))
  have HT := Lib.hid (asked_two_ok hE).1
  rw [hE] at HF HR
  clear hE hml
  generalize cutP l f t = M at *
  go_enter Try.func12, Try.ntmps12
  go_wp2_with fail
  refine HLo.out.mono ?_; rintro e w0 ⟨rfl, rfl⟩
  go_wp2_with fail
  refine HF.out.mono ?_; rintro e w1 ⟨⟨v1, rfl, hp1⟩, hb1⟩
  obtain ⟨a1, c1', rfl, hlc1, hin1⟩ := HForm.out _ _ _ hp1
  have HB1 := Lib.hid hb1; have HI1 := Lib.hid hin1
  clear hp1 hb1 hin1
  go_wp2_with fail
  refine (HR.out w1 HB1.out).mono ?_; rintro e w2 ⟨⟨v2, rfl, hp2⟩, hb2⟩
  obtain ⟨a2, c2, rfl, hlc2, hin2⟩ := HForm.out _ _ _ hp2
  have HB2 := Lib.hid (HB1.out.trans (hb2.mono HB1.out.size))
  have HI2 := Lib.hid (HI1.out.below hb2); have HJ2 := Lib.hid hin2
  clear hp2 hb2 hin2 HR HF
  go_wp2_with fail
  refine (HSm.out _ _ _ _ _ HI2.out HJ2.out).mono ?_; rintro e w3 ⟨rfl, hb3⟩
  have HB3 := Lib.hid (HB2.out.trans (hb3.mono HB2.out.size)); have HI3 := Lib.hid (HI2.out.below hb3)
  clear hb3
  go_wp2_with fail
  go_loopw [11] (fun i wr => ∃ k : Nat, k ≤ l.length ∧ i = .int .i64 k ∧ PlsIn wr a1 M ∧ Below w.heap.size w wr) (fun i _ => l.length - (intOf i).toNat)
  case atStart => exact ⟨0, Nat.zero_le _, rfl, HI3.out, HB3.out⟩
  case round =>
    obtain ⟨i, hil, rfl, hm, hb⟩ := hrel
    have HM := Lib.hid hm; have HB := Lib.hid hb
    by_cases hlt : i < l.length
    · have hii : (i : Int) < (l.length : Int) := by omega
      have hi0 : (0 : Int) ≤ (i : Int) := by omega
      clear hm hb
      obtain ⟨wo, rfl⟩ : ∃ wo : World, wo = wr := ⟨_, rfl⟩
      go_wp2_with fail
      go_loopw [12] (fun j wr => ∃ k : Nat, k ≤ 3 ∧ j = .int .i64 k ∧ PlsIn wr a1 M ∧ Below w.heap.size w wr) (fun j _ => 3 - (intOf j).toNat)
      case atStart => exact ⟨0, Nat.zero_le _, rfl, HM.out, HB.out⟩
      case round =>
        obtain ⟨k, hk, rfl, hm, hb⟩ := hrel
        have HM := Lib.hid hm
        by_cases hkt : k < 3
        · obtain ⟨b, off, rfl, hpx⟩ := HI.out.below hb i hlt
          obtain ⟨f0, ft, t1, v0, v1, k0, k1, n0, n1⟩ := HT.out.good i hlt
          have HFn := Lib.hid (HFnd.out i hlt)
          have HB := Lib.hid hb
          clear hm hb
          generalize at' l i = x at *
          obtain ⟨x0, x1, x2, x3, x4⟩ := x
          obtain ⟨c0, c1, c2, c3, c4⟩ := hpx
          simp only at c0 c1 c2 c3 c4 f0 ft t1
          clear v0 v1 k0 k1 n0 n1
          have hw1 : IntKind.i64.wrap (x1 - 1) = x1 - 1 := IntWalk.i64_in _ (by omega)
          have hki : (k : Int) < 3 := by omega
          have : k = 0 ∨ k = 1 ∨ k = 2 := by omega
          rcases this with rfl | rfl | rfl
          · have hix := idx0 x0 (x1 - 1) (max x0 (min (x1 - 1) f))
            obtain ⟨h1, h2⟩ : x0 ≤ x0 ∧ x0 < x1 := by omega
            obtain ⟨q1, q2, q3⟩ := HFn.out (x0) h1 h2
            have HQ1 := Lib.hid q1; have HQ2 := Lib.hid q2; have HQ3 := Lib.hid q3
            have HCl := Lib.hid (fun nq => HFi.out a1 c1' x2 (x0) (wr.drewN nq) (HM.out.below (below_drewN (Below.refl _ _) nq)) hlc1)
            simp only at HCl HQ1 HQ2 HQ3
            rw [HQ1.out] at HCl
            clear q1 q2 q3 HFn HQ1
            go_wp2_with fail
            go_quiet (fail)
            go_wp2_with fail
            have HCl := Lib.hid (HCl.out nq)
            generalize fndB M x2 (x0) = fb at *
            generalize fndP M x2 (x0) = p at *
            obtain ⟨y0, y1, y2, y3, y4⟩ := p
            refine HCl.out.mono ?_; rintro e w5 ⟨rfl, hb5⟩
            have hb5 : Below wr.heap.size wr w5 := (below_drewN (Below.refl _ _) nq).trans hb5
            have HB6 := Lib.hid ((HB.out.trans (hb5.mono HB.out.size)).alloc (Nat.le_trans HB.out.size hb5.size) (.cells #[.int .i64 y0, .int .i64 y1, .int .i64 y2, .int .i64 y3, .int .i64 y4] 38))
            have hal : Below wr.heap.size wr (w5.alloc (.cells #[.int .i64 y0, .int .i64 y1, .int .i64 y2, .int .i64 y3, .int .i64 y4] 38)) := hb5.alloc hb5.size _
            have HM6 := Lib.hid (HM.out.below hal)
            have d0 := keep c0 hal
            have d1 := keep c1 hal
            have d2 := keep c2 hal
            have d3 := keep c3 hal
            have d4 := keep c4 hal
            obtain ⟨z0, z1, z2, z3, z4⟩ : PlAt (w5.alloc (.cells #[.int .i64 y0, .int .i64 y1, .int .i64 y2, .int .i64 y3, .int .i64 y4] 38)) w5.heap.size 0 ⟨y0, y1, y2, y3, y4⟩ := plAt_new w5 ⟨y0, y1, y2, y3, y4⟩
            simp only at z0 z1 z2 z3 z4
            clear hal hb5
            go_upto_region 17 with (fail)
            generalize w5.alloc (.cells #[.int .i64 y0, .int .i64 y1, .int .i64 y2, .int .i64 y3, .int .i64 y4] 38) = w6 at *
            generalize w5.heap.size = q5 at *
            cases fb
            · by_cases hf1 : f ≤ x0
              · have hf2 : ¬ x0 < t := fun e => by have := HQ2.out; rw [decide_eq_true hf1, decide_eq_true e] at this; cases this
                have hf3 : decide (x0 < t) = false := decide_eq_false hf2
                have hf4 : decide (f ≤ x0) = true := decide_eq_true hf1
                go_wp2_with fail
                go_quiet (fail)
                go_wp2_with fail
                go_roundw
                case rel => exact ⟨1, by omega, by go_num, HM6.out.below (below_drewN (Below.refl _ _) _), below_drewN HB6.out _⟩
                case measure => simp [intOf]
              · have hf5 : x0 < f := by omega
                have hf4 : decide (f ≤ x0) = false := decide_eq_false hf1
                go_wp2_with fail
                go_quiet (fail)
                go_wp2_with fail
                go_roundw
                case rel => exact ⟨1, by omega, by go_num, HM6.out.below (below_drewN (Below.refl _ _) _), below_drewN HB6.out _⟩
                case measure => simp [intOf]
            · have hfb := HQ2.out.symm
              rw [Bool.and_eq_true, decide_eq_true_iff, decide_eq_true_iff] at hfb
              obtain ⟨hf1, hf2⟩ := hfb
              obtain ⟨e3, e4⟩ := HQ3.out rfl
              try simp only at e3 e4
              have hn3 : (y3 != x3) = false := by rw [e3]; simp
              have hn4 : (y4 != x4) = false := by rw [e4]; simp
              clear e3 e4
              have hf3 : decide (x0 < t) = true := decide_eq_true hf2
              have hf4 : decide (f ≤ x0) = true := decide_eq_true hf1
              go_wp2_with fail
              go_quiet (fail)
              go_wp2_with fail
              go_roundw
              case rel => exact ⟨1, by omega, by go_num, HM6.out.below (below_drewN (Below.refl _ _) _), below_drewN HB6.out _⟩
              case measure => simp [intOf]
          · have hix := idx1 x0 (x1 - 1) (max x0 (min (x1 - 1) f))
            obtain ⟨h1, h2⟩ : x0 ≤ x1 - 1 ∧ x1 - 1 < x1 := by omega
            obtain ⟨q1, q2, q3⟩ := HFn.out (x1 - 1) h1 h2
            have HQ1 := Lib.hid q1; have HQ2 := Lib.hid q2; have HQ3 := Lib.hid q3
            have HCl := Lib.hid (fun nq => HFi.out a1 c1' x2 (x1 - 1) (wr.drewN nq) (HM.out.below (below_drewN (Below.refl _ _) nq)) hlc1)
            simp only at HCl HQ1 HQ2 HQ3
            rw [HQ1.out] at HCl
            clear q1 q2 q3 HFn HQ1
            go_wp2_with fail
            go_quiet (fail)
            go_wp2_with fail
            have HCl := Lib.hid (HCl.out nq)
            generalize fndB M x2 (x1 - 1) = fb at *
            generalize fndP M x2 (x1 - 1) = p at *
            obtain ⟨y0, y1, y2, y3, y4⟩ := p
            refine HCl.out.mono ?_; rintro e w5 ⟨rfl, hb5⟩
            have hb5 : Below wr.heap.size wr w5 := (below_drewN (Below.refl _ _) nq).trans hb5
            have HB6 := Lib.hid ((HB.out.trans (hb5.mono HB.out.size)).alloc (Nat.le_trans HB.out.size hb5.size) (.cells #[.int .i64 y0, .int .i64 y1, .int .i64 y2, .int .i64 y3, .int .i64 y4] 38))
            have hal : Below wr.heap.size wr (w5.alloc (.cells #[.int .i64 y0, .int .i64 y1, .int .i64 y2, .int .i64 y3, .int .i64 y4] 38)) := hb5.alloc hb5.size _
            have HM6 := Lib.hid (HM.out.below hal)
            have d0 := keep c0 hal
            have d1 := keep c1 hal
            have d2 := keep c2 hal
            have d3 := keep c3 hal
            have d4 := keep c4 hal
            obtain ⟨z0, z1, z2, z3, z4⟩ : PlAt (w5.alloc (.cells #[.int .i64 y0, .int .i64 y1, .int .i64 y2, .int .i64 y3, .int .i64 y4] 38)) w5.heap.size 0 ⟨y0, y1, y2, y3, y4⟩ := plAt_new w5 ⟨y0, y1, y2, y3, y4⟩
            simp only at z0 z1 z2 z3 z4
            clear hal hb5
            go_upto_region 17 with (fail)
            generalize w5.alloc (.cells #[.int .i64 y0, .int .i64 y1, .int .i64 y2, .int .i64 y3, .int .i64 y4] 38) = w6 at *
            generalize w5.heap.size = q5 at *
            generalize hA : x1 - 1 = ad at *
            have HA := Lib.hid hA; clear hA
            cases fb
            · by_cases hf1 : f ≤ ad
              · have hf2 : ¬ ad < t := fun e => by have := HQ2.out; rw [decide_eq_true hf1, decide_eq_true e] at this; cases this
                have hf3 : decide (ad < t) = false := decide_eq_false hf2
                have hf4 : decide (f ≤ ad) = true := decide_eq_true hf1
                go_wp2_with fail
                go_quiet (fail)
                go_wp2_with fail
                go_roundw
                case rel => exact ⟨2, by omega, by go_num, HM6.out.below (below_drewN (Below.refl _ _) _), below_drewN HB6.out _⟩
                case measure => simp [intOf]
              · have hf5 : ad < f := by omega
                have hf4 : decide (f ≤ ad) = false := decide_eq_false hf1
                go_wp2_with fail
                go_quiet (fail)
                go_wp2_with fail
                go_roundw
                case rel => exact ⟨2, by omega, by go_num, HM6.out.below (below_drewN (Below.refl _ _) _), below_drewN HB6.out _⟩
                case measure => simp [intOf]
            · have hfb := HQ2.out.symm
              rw [Bool.and_eq_true, decide_eq_true_iff, decide_eq_true_iff] at hfb
              obtain ⟨hf1, hf2⟩ := hfb
              obtain ⟨e3, e4⟩ := HQ3.out rfl
              try simp only at e3 e4
              have hn3 : (y3 != x3) = false := by rw [e3]; simp
              have hn4 : (y4 != x4) = false := by rw [e4]; simp
              clear e3 e4
              have hf3 : decide (ad < t) = true := decide_eq_true hf2
              have hf4 : decide (f ≤ ad) = true := decide_eq_true hf1
              go_wp2_with fail
              go_quiet (fail)
              go_wp2_with fail
              go_roundw
              case rel => exact ⟨2, by omega, by go_num, HM6.out.below (below_drewN (Below.refl _ _) _), below_drewN HB6.out _⟩
              case measure => simp [intOf]
          · have hix := idx2 x0 (x1 - 1) (max x0 (min (x1 - 1) f))
            obtain ⟨h1, h2⟩ : x0 ≤ max x0 (min (x1 - 1) f) ∧ max x0 (min (x1 - 1) f) < x1 := by omega
            obtain ⟨q1, q2, q3⟩ := HFn.out (max x0 (min (x1 - 1) f)) h1 h2
            have HQ1 := Lib.hid q1; have HQ2 := Lib.hid q2; have HQ3 := Lib.hid q3
            have HCl := Lib.hid (fun nq => HFi.out a1 c1' x2 (max x0 (min (x1 - 1) f)) (wr.drewN nq) (HM.out.below (below_drewN (Below.refl _ _) nq)) hlc1)
            simp only at HCl HQ1 HQ2 HQ3
            rw [HQ1.out] at HCl
            clear q1 q2 q3 HFn HQ1
            go_wp2_with fail
            go_quiet (fail)
            go_wp2_with fail
            have HCl := Lib.hid (HCl.out nq)
            generalize fndB M x2 (max x0 (min (x1 - 1) f)) = fb at *
            generalize fndP M x2 (max x0 (min (x1 - 1) f)) = p at *
            obtain ⟨y0, y1, y2, y3, y4⟩ := p
            refine HCl.out.mono ?_; rintro e w5 ⟨rfl, hb5⟩
            have hb5 : Below wr.heap.size wr w5 := (below_drewN (Below.refl _ _) nq).trans hb5
            have HB6 := Lib.hid ((HB.out.trans (hb5.mono HB.out.size)).alloc (Nat.le_trans HB.out.size hb5.size) (.cells #[.int .i64 y0, .int .i64 y1, .int .i64 y2, .int .i64 y3, .int .i64 y4] 38))
            have hal : Below wr.heap.size wr (w5.alloc (.cells #[.int .i64 y0, .int .i64 y1, .int .i64 y2, .int .i64 y3, .int .i64 y4] 38)) := hb5.alloc hb5.size _
            have HM6 := Lib.hid (HM.out.below hal)
            have d0 := keep c0 hal
            have d1 := keep c1 hal
            have d2 := keep c2 hal
            have d3 := keep c3 hal
            have d4 := keep c4 hal
            obtain ⟨z0, z1, z2, z3, z4⟩ : PlAt (w5.alloc (.cells #[.int .i64 y0, .int .i64 y1, .int .i64 y2, .int .i64 y3, .int .i64 y4] 38)) w5.heap.size 0 ⟨y0, y1, y2, y3, y4⟩ := plAt_new w5 ⟨y0, y1, y2, y3, y4⟩
            simp only at z0 z1 z2 z3 z4
            clear hal hb5
            go_upto_region 17 with (fail)
            generalize w5.alloc (.cells #[.int .i64 y0, .int .i64 y1, .int .i64 y2, .int .i64 y3, .int .i64 y4] 38) = w6 at *
            generalize w5.heap.size = q5 at *
            generalize hA : max x0 (min (x1 - 1) f) = ad at *
            have HA := Lib.hid hA; clear hA
            cases fb
            · by_cases hf1 : f ≤ ad
              · have hf2 : ¬ ad < t := fun e => by have := HQ2.out; rw [decide_eq_true hf1, decide_eq_true e] at this; cases this
                have hf3 : decide (ad < t) = false := decide_eq_false hf2
                have hf4 : decide (f ≤ ad) = true := decide_eq_true hf1
                go_wp2_with fail
                go_quiet (fail)
                go_wp2_with fail
                go_roundw
                case rel => exact ⟨3, by omega, by go_num, HM6.out.below (below_drewN (Below.refl _ _) _), below_drewN HB6.out _⟩
                case measure => simp [intOf]
              · have hf5 : ad < f := by omega
                have hf4 : decide (f ≤ ad) = false := decide_eq_false hf1
                go_wp2_with fail
                go_quiet (fail)
                go_wp2_with fail
                go_roundw
                case rel => exact ⟨3, by omega, by go_num, HM6.out.below (below_drewN (Below.refl _ _) _), below_drewN HB6.out _⟩
                case measure => simp [intOf]
            · have hfb := HQ2.out.symm
              rw [Bool.and_eq_true, decide_eq_true_iff, decide_eq_true_iff] at hfb
              obtain ⟨hf1, hf2⟩ := hfb
              obtain ⟨e3, e4⟩ := HQ3.out rfl
              try simp only at e3 e4
              have hn3 : (y3 != x3) = false := by rw [e3]; simp
              have hn4 : (y4 != x4) = false := by rw [e4]; simp
              clear e3 e4
              have hf3 : decide (ad < t) = true := decide_eq_true hf2
              have hf4 : decide (f ≤ ad) = true := decide_eq_true hf1
              go_wp2_with fail
              go_quiet (fail)
              go_wp2_with fail
              go_roundw
              case rel => exact ⟨3, by omega, by go_num, HM6.out.below (below_drewN (Below.refl _ _) _), below_drewN HB6.out _⟩
              case measure => simp [intOf]
        · obtain rfl : k = 3 := by omega
          have HB := Lib.hid hb
          clear hm hb
          go_wp2_with fail
          go_roundw
          case rel => exact ⟨i + 1, by omega, by go_num, HM.out, HB.out⟩
          case measure => simp [intOf]; omega
    · have hii : ¬ (i : Int) < (l.length : Int) := by omega
      clear hm hb
      go_wp2_with fail
      refine (HK.out _).mono ?_; rintro e w5 ⟨rfl, hb5⟩
      go_wp2_with fail
      go_ret
      exact ⟨rfl, HB.out.trans (hb5.mono HB.out.size)⟩
end Go.Proofs.Ytmhneonebjcieaa
