/- The law TraceMerges. -/
import Derived.Test.YtmhneonebjcieaaPN
import Derived.Test.YtmhneonebjcieaaL2
import Derived.Test.YtmhneonebjcieaaL4
namespace Go.Proofs.Ytmhneonebjcieaa
open Go.RowKit

theorem mrg_form {l : List Pl} {B : Nat} {v : Value} {w : World} (hE : valE l = 0) (h : MrgPost l B v w) : ∃ a cap, v = .slice a (mergedP l).length cap ∧ (mergedP l).length ≤ cap ∧ PlsIn w a (mergedP l) := by
  unfold MrgPost at h
  rw [if_pos hE] at h
  obtain ⟨b, _, ho⟩ := h
  exact plSl_of_owns ho
theorem rMrg_form {l : List Pl} {B : Nat} {v : Value} {w : World} (hE : valE l = 0) (h : rMrgPost l B v w) : ∃ a cap, v = .slice a (mergedP l).length cap ∧ (mergedP l).length ≤ cap ∧ PlsIn w a (mergedP l) := by
  unfold rMrgPost at h
  rw [if_pos hE, rRun_mRun (valE_zero.1 hE) _ (Nat.le_refl _)] at h
  have h : w.ownsRow B 38 5 v (sortP (mRun l l.length).out).length (encPl (sortP (mRun l l.length).out)) := by rw [sortP_len]; exact h
  exact plSl_of_owns h
theorem mrg_nil {l : List Pl} {B : Nat} {v : Value} {w : World} (hE : valE l ≠ 0) (h : MrgPost l B v w) : v = .slice none 0 0 := by
  unfold MrgPost at h
  rw [if_neg hE] at h
  exact h
theorem rMrg_nil {l : List Pl} {B : Nat} {v : Value} {w : World} (hE : valE l ≠ 0) (h : rMrgPost l B v w) : v = .slice none 0 0 := by
  unfold rMrgPost at h
  rw [if_neg hE] at h
  exact h
set_option maxRecDepth 100000 in
set_option maxHeartbeats 2000000 in
theorem traceMerges_any (l : List Pl) (a : Option Addr) (cap : Nat) (v ad : Int) (w : World) (hin : PlsIn w a l) (hlc : l.length ≤ cap) :
    Calls Try.prog 8 #[.slice a l.length cap, .int .i64 v, .int .i64 ad] w fun e w' => e = .returned (.bool true) ∧ Below w.heap.size w w' := by
  have HK := Lib.hid known_any
  by_cases h100 : 100 < l.length
  · clear hin
    go_enter Try.func8, Try.ntmps8
    go_wp2_with ((with_reducible refine (long_yes h100 a cap _).mono ?_); rintro e w1 ⟨rfl, rfl⟩)
    refine (HK.out _).mono ?_; rintro e w2 ⟨rfl, hb2⟩
    go_wp2_with fail
    go_ret
    exact ⟨rfl, hb2⟩
  have HLo := Lib.hid (long_no h100 a cap w)
  have HF := Lib.hid (merge_any l a cap w hin hlc (by omega))
  have HR := Lib.hid (fun (w' : World) (hb : Below w.heap.size w w') => rMerge_any l a cap w' (hin.below hb) (by omega))
  have HFi := Lib.hid (fun (w' : World) (hb : Below w.heap.size w w') => Find_any l a cap v ad w' (hin.below hb) hlc (by omega))
  clear hin
  by_cases hE : valE l = 0
  rotate_left
  · have HNil := Lib.hid (fun B v w h => @mrg_nil l B v w hE h); have HNil2 := Lib.hid (fun B v w h => @rMrg_nil l B v w hE h)
    have hne : (valE l != 0) = true := bne_iff_ne.2 hE
    have hee : (valE l != valE l) = false := by simp
    generalize valE l = E at *
    clear hE HFi
    go_enter Try.func8, Try.ntmps8
    go_wp2_with fail
    refine HLo.out.mono ?_; rintro e w0 ⟨rfl, rfl⟩
    go_wp2_with fail
    refine HF.out.mono ?_; rintro e w1 ⟨⟨v1, rfl, hp1⟩, hb1⟩
    obtain rfl := HNil.out _ _ _ hp1
    have HB1 := Lib.hid hb1
    clear hp1 hb1
    go_wp2_with fail
    refine (HR.out w1 HB1.out).mono ?_; rintro e w2 ⟨⟨v2, rfl, hp2⟩, hb2⟩
    obtain rfl := HNil2.out _ _ _ hp2
    have HB2 := Lib.hid (HB1.out.trans (hb2.mono HB1.out.size))
    clear hp2 hb2 HR HF
    go_wp2_with fail
    refine (same_nil _).mono ?_; rintro e w3 ⟨rfl, hb3⟩
    have HB3 := Lib.hid (HB2.out.trans (hb3.mono HB2.out.size))
    clear hb3
    go_wp2_with fail
    refine (HK.out _).mono ?_; rintro e w5 ⟨rfl, hb5⟩
    go_wp2_with fail
    go_ret
    exact ⟨rfl, HB3.out.trans (hb5.mono HB3.out.size)⟩
  have ht := valE_zero.1 hE
  have HForm := Lib.hid (fun B v w h => @mrg_form l B v w hE h); have HForm2 := Lib.hid (fun B v w h => @rMrg_form l B v w hE h)
  have htm := merged_table ht
  have hEm := valE_zero.2 htm
  have hml := merged_len ht
  have HForm3 := Lib.hid (fun B v w h => @mrg_form (mergedP l) B v w hEm h)
  rw [merged_again ht] at HForm3
  have HMg := Lib.hid (fun a cap w h1 h2 => merge_any (mergedP l) a cap w h1 h2 (by omega))
  rw [hEm] at HMg
  have HFm := Lib.hid (fun a cap w h1 h2 => Find_any (mergedP l) a cap v ad w h1 h2 (by omega))
  obtain ⟨hf1, hf2, hf3⟩ := merged_fnd ht v ad
  rw [hf1, asked_same hE hEm] at HFm
  have HSm := Lib.hid (fun a a' cap cap' w h1 h2 => @same_self (mergedP l) a a' cap cap' w h1 h2 (by omega))
  have hlen : ((mergedP l).length : Int) ≤ (l.length : Int) := by omega
  have hee : (askedE l v [ad] == askedE l v [ad]) = true := by simp
  have hbb : (fndB l v ad == fndB l v ad) = true := by simp
  rw [hE] at HF HR
  clear hE ht htm hEm hf1 hml
  generalize mergedP l = M at *
  generalize askedE l v [ad] = E at *
  generalize fndB l v ad = fb at *
  generalize fndP l v ad = p at *
  generalize fndP M v ad = q at *
  obtain ⟨x0, x1, x2, x3, x4⟩ := p
  obtain ⟨y0, y1, y2, y3, y4⟩ := q
  simp only at hf2 hf3
  have hk1 : (x3 == y3) = true := beq_iff_eq.2 hf2.symm
  have hk2 : (x4 == y4) = true := beq_iff_eq.2 hf3.symm
  clear hf2 hf3
  go_enter Try.func8, Try.ntmps8
  go_wp2_with fail
  refine HLo.out.mono ?_; rintro e w0 ⟨rfl, rfl⟩
  go_wp2_with fail
  refine HF.out.mono ?_; rintro e w1 ⟨⟨v1, rfl, hp1⟩, hb1⟩
  obtain ⟨a1, c1, rfl, hlc1, hin1⟩ := HForm.out _ _ _ hp1
  have HB1 := Lib.hid hb1; have HI1 := Lib.hid hin1
  clear hp1 hb1 hin1
  go_wp2_with fail
  refine (HR.out w1 HB1.out).mono ?_; rintro e w2 ⟨⟨v2, rfl, hp2⟩, hb2⟩
  obtain ⟨a2, c2, rfl, hlc2, hin2⟩ := HForm2.out _ _ _ hp2
  have HB2 := Lib.hid (HB1.out.trans (hb2.mono HB1.out.size))
  have HI2 := Lib.hid (HI1.out.below hb2); have HJ2 := Lib.hid hin2
  clear hp2 hb2 hin2 HR HF
  go_wp2_with fail
  refine (HSm.out _ _ _ _ _ HI2.out HJ2.out).mono ?_; rintro e w3 ⟨rfl, hb3⟩
  have HB3 := Lib.hid (HB2.out.trans (hb3.mono HB2.out.size)); have HI3 := Lib.hid (HI2.out.below hb3)
  clear hb3
  go_wp2_with fail
  refine (HMg.out _ _ _ HI3.out hlc1).mono ?_; rintro e w4 ⟨⟨v4, rfl, hp4⟩, hb4⟩
  obtain ⟨a4, c4, rfl, hlc4, hin4⟩ := HForm3.out _ _ _ hp4
  have HB4 := Lib.hid (HB3.out.trans (hb4.mono HB3.out.size)); have HI4 := Lib.hid (HI3.out.below hb4); have HJ4 := Lib.hid hin4
  clear hp4 hb4 hin4
  go_wp2_with fail
  refine (HFi.out _ HB4.out).mono ?_; rintro e w5 ⟨rfl, hb5⟩
  have HB5 := Lib.hid ((HB4.out.trans (hb5.mono HB4.out.size)).alloc (Nat.le_trans HB4.out.size hb5.size) (.cells #[.int .i64 x0, .int .i64 x1, .int .i64 x2, .int .i64 x3, .int .i64 x4] 38))
  have hb5' : Below w4.heap.size w4 (w5.alloc (.cells #[.int .i64 x0, .int .i64 x1, .int .i64 x2, .int .i64 x3, .int .i64 x4] 38)) := hb5.alloc hb5.size _
  have HI5 := Lib.hid (HI4.out.below hb5'); have HJ5 := Lib.hid (HJ4.out.below hb5')
  have HP5 := Lib.hid (plAt_new w5 ⟨x0, x1, x2, x3, x4⟩)
  clear hb5 hb5'
  go_wp2_with fail
  have HP5 : Hid (PlAt (w5.alloc (.cells #[.int .i64 x0, .int .i64 x1, .int .i64 x2, .int .i64 x3, .int .i64 x4] 38)) w5.heap.size 0 ⟨x0, x1, x2, x3, x4⟩) := HP5
  generalize w5.alloc (.cells #[.int .i64 x0, .int .i64 x1, .int .i64 x2, .int .i64 x3, .int .i64 x4] 38) = w6 at *
  generalize w5.heap.size = q5 at *
  refine (HFm.out _ _ _ HI5.out hlc1).mono ?_; rintro e w7 ⟨rfl, hb7⟩
  have HB7 := Lib.hid ((HB5.out.trans (hb7.mono HB5.out.size)).alloc (Nat.le_trans HB5.out.size hb7.size) (.cells #[.int .i64 y0, .int .i64 y1, .int .i64 y2, .int .i64 y3, .int .i64 y4] 38))
  have hb7' : Below w6.heap.size w6 (w7.alloc (.cells #[.int .i64 y0, .int .i64 y1, .int .i64 y2, .int .i64 y3, .int .i64 y4] 38)) := hb7.alloc hb7.size _
  have HI7 := Lib.hid (HI5.out.below hb7'); have HJ7 := Lib.hid (HJ5.out.below hb7'); have HP7 := Lib.hid (HP5.out.keep hb7')
  have HQ7 : Hid (PlAt (w7.alloc (.cells #[.int .i64 y0, .int .i64 y1, .int .i64 y2, .int .i64 y3, .int .i64 y4] 38)) w7.heap.size 0 ⟨y0, y1, y2, y3, y4⟩) := Lib.hid (plAt_new w7 ⟨y0, y1, y2, y3, y4⟩)
  clear hb7 hb7'
  go_wp2_with fail
  generalize w7.alloc (.cells #[.int .i64 y0, .int .i64 y1, .int .i64 y2, .int .i64 y3, .int .i64 y4] 38) = w8 at *
  generalize w7.heap.size = q7 at *
  refine (HSm.out _ _ _ _ _ HJ7.out HI7.out).mono ?_; rintro e w9 ⟨rfl, hb9⟩
  have HB9 := Lib.hid (HB7.out.trans (hb9.mono HB7.out.size))
  obtain ⟨c0, c1', c2', c3, c4'⟩ := HP7.out.keep hb9
  obtain ⟨d0, d1, d2, d3, d4⟩ := HQ7.out.keep hb9
  simp only at c0 c1' c2' c3 c4' d0 d1 d2 d3 d4
  clear hb9
  go_wp2_with fail
  refine (HK.out _).mono ?_; rintro e w10 ⟨rfl, hb10⟩
  go_wp2_with fail
  go_ret
  exact ⟨rfl, HB9.out.trans (hb10.mono HB9.out.size)⟩
end Go.Proofs.Ytmhneonebjcieaa
