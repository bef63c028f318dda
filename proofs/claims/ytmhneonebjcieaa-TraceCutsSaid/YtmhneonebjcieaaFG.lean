/- The walk of Find of the document. -/
import Derived.Test.YtmhneonebjcieaaFF
namespace Go.Proofs.Ytmhneonebjcieaa
open Go.RowKit

set_option maxRecDepth 100000 in
set_option maxHeartbeats 2000000 in
theorem rFind_any (l : List Pl) (a : Option Addr) (cap : Nat) (v ad : Int) (w : World) (hin : PlsIn w a l) (hl : l.length ≤ 1000) :
    Calls Try.prog 23 #[.slice a l.length cap, .int .i64 v, .int .i64 ad] w fun e w' => e = .returned (.tuple #[(.agg #[.int .i64 (fndP l v ad).fr, .int .i64 (fndP l v ad).to, .int .i64 (fndP l v ad).va, .int .i64 (fndP l v ad).ki, .int .i64 (fndP l v ad).nn]), .bool (fndB l v ad), .int .i64 (askedE l v [ad])]) ∧ Below w.heap.size w w' := by
  have HI := Lib.hid hin
  have hb1 : Below w.heap.size w (w.alloc (.cells #[.int .i64 0, .int .i64 0, .int .i64 0, .int .i64 0, .int .i64 0] 38)) := (Below.refl _ _).alloc (Nat.le_refl _) _
  have hbx : BoxAt (w.alloc (.cells #[.int .i64 0, .int .i64 0, .int .i64 0, .int .i64 0, .int .i64 0] 38)) w.heap.size 0 0 0 0 0 := ⟨heap_at _ _ _ rfl⟩
  have HV := Lib.hid (rValid_any l a cap _ (hin.below hb1) hl)
  have HB2 := Lib.hid hb1; have HBx := Lib.hid hbx
  clear hin hb1 hbx
  by_cases hE : valE l = 0
  rotate_left
  · have hA : askedE l v [ad] = valE l := by unfold askedE; rw [if_pos hE]
    have hP : fndP l v ad = noPl := by unfold fndP; rw [if_neg (by rw [hA]; exact hE)]
    have hB : fndB l v ad = false := by unfold fndB; rw [if_neg (by rw [hA]; exact hE)]
    rw [hA, hP, hB]
    have hne : (valE l != 0) = true := bne_iff_ne.2 hE
    generalize valE l = E at *
    clear hE hA hP hB
    go_enter Try.func23, Try.ntmps23
    go_wp2_with fail
    refine HV.out.mono ?_; rintro e w1 ⟨rfl, hb1⟩
    have HB1 := Lib.hid (HB2.out.trans (hb1.mono HB2.out.size))
    have hbx1 : BoxAt w1 w.heap.size 0 0 0 0 0 := ⟨(hb1.block _ (by simp)).trans HBx.out.blk⟩
    have HBx1 := Lib.hid hbx1
    obtain ⟨e0, e1, e2, e3, e4, f0, f1, f2, f3, f4, h0, h1, h2, h3, h4⟩ := HBx1.out.five noPl
    have HB4 := Lib.hid (below_five HB1.out (Nat.le_refl w.heap.size) (.int .i64 0) (.int .i64 0) (.int .i64 0) (.int .i64 0) (.int .i64 0))
    simp only [noPl] at h0 h1 h2 h3 h4
    clear hb1 hbx1
    go_wp2_with fail
    exact bodyPost_ret (v := .tuple #[.agg #[.int .i64 0, .int .i64 0, .int .i64 0, .int .i64 0, .int .i64 0], .bool false, .int .i64 E]) (by simp [results, Try.results23, go_sem, h0, h1, h2, h3, h4]) rfl ⟨rfl, HB4.out⟩
  have hA := asked_one (v := v) (ad := ad) hE
  rw [hE] at HV
  cases hw : within v 0 63
  · rw [hw] at hA
    have hA : askedE l v [ad] = 1 := hA
    have hP : fndP l v ad = noPl := by unfold fndP; rw [if_neg (by rw [hA]; decide)]
    have hB : fndB l v ad = false := by unfold fndB; rw [if_neg (by rw [hA]; decide)]
    rw [hA, hP, hB]
    have HC := Lib.hid (rwithin_is hw)
    clear hE hA hP hB hw
    go_enter Try.func23, Try.ntmps23
    go_wp2_with fail
    refine HV.out.mono ?_; rintro e w1 ⟨rfl, hb1⟩
    have HB1 := Lib.hid (HB2.out.trans (hb1.mono HB2.out.size))
    have hbx1 : BoxAt w1 w.heap.size 0 0 0 0 0 := ⟨(hb1.block _ (by simp)).trans HBx.out.blk⟩
    have HBx1 := Lib.hid hbx1
    obtain ⟨e0, e1, e2, e3, e4, f0, f1, f2, f3, f4, h0, h1, h2, h3, h4⟩ := HBx1.out.five noPl
    have HB4 := Lib.hid (below_five HB1.out (Nat.le_refl w.heap.size) (.int .i64 0) (.int .i64 0) (.int .i64 0) (.int .i64 0) (.int .i64 0))
    simp only [noPl] at h0 h1 h2 h3 h4
    clear hb1 hbx1
    go_wp2_with fail
    refine (HC.out _).mono ?_; rintro e w2 ⟨rfl, rfl⟩
    go_wp2_with fail
    exact bodyPost_ret (v := .tuple #[.agg #[.int .i64 0, .int .i64 0, .int .i64 0, .int .i64 0, .int .i64 0], .bool false, .int .i64 1]) (by simp [results, Try.results23, go_sem, h0, h1, h2, h3, h4]) rfl ⟨rfl, HB4.out⟩
  cases hw2 : within ad 0 32768
  · rw [hw, hw2] at hA
    have hA : askedE l v [ad] = 1 := hA
    have hP : fndP l v ad = noPl := by unfold fndP; rw [if_neg (by rw [hA]; decide)]
    have hB : fndB l v ad = false := by unfold fndB; rw [if_neg (by rw [hA]; decide)]
    rw [hA, hP, hB]
    have HC := Lib.hid (rwithin_is hw); have HC2 := Lib.hid (rwithin_is hw2)
    clear hE hA hP hB hw hw2
    go_enter Try.func23, Try.ntmps23
    go_wp2_with fail
    refine HV.out.mono ?_; rintro e w1 ⟨rfl, hb1⟩
    have HB1 := Lib.hid (HB2.out.trans (hb1.mono HB2.out.size))
    have hbx1 : BoxAt w1 w.heap.size 0 0 0 0 0 := ⟨(hb1.block _ (by simp)).trans HBx.out.blk⟩
    have HBx1 := Lib.hid hbx1
    obtain ⟨e0, e1, e2, e3, e4, f0, f1, f2, f3, f4, h0, h1, h2, h3, h4⟩ := HBx1.out.five noPl
    have HB4 := Lib.hid (below_five HB1.out (Nat.le_refl w.heap.size) (.int .i64 0) (.int .i64 0) (.int .i64 0) (.int .i64 0) (.int .i64 0))
    simp only [noPl] at h0 h1 h2 h3 h4
    clear hb1 hbx1
    go_wp2_with fail
    refine (HC.out _).mono ?_; rintro e w2 ⟨rfl, rfl⟩
    go_wp2_with fail
    refine (HC2.out _).mono ?_; rintro e w2 ⟨rfl, rfl⟩
    go_wp2_with fail
    exact bodyPost_ret (v := .tuple #[.agg #[.int .i64 0, .int .i64 0, .int .i64 0, .int .i64 0, .int .i64 0], .bool false, .int .i64 1]) (by simp [results, Try.results23, go_sem, h0, h1, h2, h3, h4]) rfl ⟨rfl, HB4.out⟩
  rw [hw, hw2] at hA
  have hA : askedE l v [ad] = 0 := hA
  have hP : fndP l v ad = foundP l v ad := by unfold fndP; rw [if_pos hA]
  have hB : fndB l v ad = isFound l v ad := by unfold fndB; rw [if_pos hA]
  rw [hA, hP, hB]
  have HC := Lib.hid (rwithin_is hw); have HC2 := Lib.hid (rwithin_is hw2)
  have HF := Lib.hid (fun (w' : World) (hb : Below w.heap.size w w') => rfind_any l a cap v ad w' (HI.out.below hb) hl)
  clear hE hA hP hB hw hw2
  generalize foundP l v ad = p at *
  generalize isFound l v ad = b at *
  obtain ⟨x0, x1, x2, x3, x4⟩ := p
  go_enter Try.func23, Try.ntmps23
  go_wp2_with fail
  refine HV.out.mono ?_; rintro e w1 ⟨rfl, hb1⟩
  have HB1 := Lib.hid (HB2.out.trans (hb1.mono HB2.out.size))
  have hbx1 : BoxAt w1 w.heap.size 0 0 0 0 0 := ⟨(hb1.block _ (by simp)).trans HBx.out.blk⟩
  have HBx1 := Lib.hid hbx1
  have hs1 := hb1.size
  simp at hs1
  clear hb1 hbx1
  go_wp2_with fail
  refine (HC.out _).mono ?_; rintro e w2 ⟨rfl, rfl⟩
  go_wp2_with fail
  refine (HC2.out _).mono ?_; rintro e w2 ⟨rfl, rfl⟩
  go_wp2_with fail
  refine (HF.out _ HB1.out).mono ?_; rintro e w2 ⟨rfl, hb2⟩
  have HB2 := Lib.hid (HB1.out.trans (hb2.mono HB1.out.size))
  have hs2 := hb2.size
  have hbx2 : BoxAt (w2.alloc (.cells #[.int .i64 x0, .int .i64 x1, .int .i64 x2, .int .i64 x3, .int .i64 x4] 38)) w.heap.size 0 0 0 0 0 := ⟨by rw [Below.heap_alloc _ _ _ (by omega)]; exact (hb2.block _ (by omega)).trans HBx1.out.blk⟩
  have HB3 := Lib.hid (HB2.out.alloc (Nat.le_trans HB1.out.size hs2) (.cells #[.int .i64 x0, .int .i64 x1, .int .i64 x2, .int .i64 x3, .int .i64 x4] 38))
  have HBx2 := Lib.hid hbx2
  have hpl : PlAt (w2.alloc (.cells #[.int .i64 x0, .int .i64 x1, .int .i64 x2, .int .i64 x3, .int .i64 x4] 38)) w2.heap.size 0 ⟨x0, x1, x2, x3, x4⟩ := ⟨by simp [go_sem], by simp [go_sem], by simp [go_sem], by simp [go_sem], by simp [go_sem]⟩
  obtain ⟨y0, y1, y2, y3, y4⟩ := hpl
  have HB4 := Lib.hid (below_five HB3.out (Nat.le_refl w.heap.size) (.int .i64 x0) (.int .i64 x1) (.int .i64 x2) (.int .i64 x3) (.int .i64 x4))
  obtain ⟨e0, e1, e2, e3, e4, f0, f1, f2, f3, f4, h0, h1, h2, h3, h4⟩ := HBx2.out.five ⟨x0, x1, x2, x3, x4⟩
  simp only at y0 y1 y2 y3 y4 h0 h1 h2 h3 h4
  clear hb2 hbx2
  go_wp2_with fail
  exact bodyPost_ret (v := .tuple #[.agg #[.int .i64 x0, .int .i64 x1, .int .i64 x2, .int .i64 x3, .int .i64 x4], .bool b, .int .i64 0]) (by simp [results, Try.results23, go_sem, h0, h1, h2, h3, h4]) rfl ⟨rfl, HB4.out⟩
end Go.Proofs.Ytmhneonebjcieaa
