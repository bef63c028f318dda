/- The law TraceFinds. -/
import Derived.Test.YtmhneonebjcieaaFG
import Derived.Test.YtmhneonebjcieaaL1
namespace Go.Proofs.Ytmhneonebjcieaa
open Go.RowKit

theorem fnd_cov {l : List Pl} {v ad : Int} (h : fndB l v ad = true) : (fndP l v ad).va = v ∧ (fndP l v ad).fr ≤ ad ∧ ad < (fndP l v ad).to := by
  unfold fndB at h
  unfold fndP
  split at h
  · rename_i he
    rw [if_pos he]
    unfold isFound at h
    obtain ⟨x, hx⟩ := Option.isSome_iff_exists.1 h
    have hc := List.find?_some hx
    unfold foundP
    rw [hx]
    unfold covers at hc
    simp only [Bool.and_eq_true, decide_eq_true_iff] at hc
    exact ⟨hc.1, hc.2.1, hc.2.2⟩
  · cases h
theorem plAt_new (w : World) (p : Pl) : PlAt (w.alloc (.cells #[.int .i64 p.fr, .int .i64 p.to, .int .i64 p.va, .int .i64 p.ki, .int .i64 p.nn] 38)) w.heap.size 0 p := ⟨by simp [go_sem], by simp [go_sem], by simp [go_sem], by simp [go_sem], by simp [go_sem]⟩
set_option maxRecDepth 100000 in
set_option maxHeartbeats 1000000 in
theorem traceFinds_any (l : List Pl) (a : Option Addr) (cap : Nat) (v ad : Int) (w : World) (hin : PlsIn w a l) (hlc : l.length ≤ cap) :
    Calls Try.prog 7 #[.slice a l.length cap, .int .i64 v, .int .i64 ad] w fun e w' => e = .returned (.bool true) ∧ Below w.heap.size w w' := by
  have HK := Lib.hid known_any
  by_cases h100 : 100 < l.length
  · clear hin
    go_enter Try.func7, Try.ntmps7
    go_wp2_with ((with_reducible refine (long_yes h100 a cap _).mono ?_); rintro e w1 ⟨rfl, rfl⟩)
    refine (HK.out _).mono ?_; rintro e w2 ⟨rfl, hb2⟩
    go_wp2_with fail
    go_ret
    exact ⟨rfl, hb2⟩
  have HLo := Lib.hid (long_no h100 a cap w)
  have HF := Lib.hid (Find_any l a cap v ad w hin hlc (by omega))
  have HR := Lib.hid (fun (w' : World) (hb : Below w.heap.size w w') => rFind_any l a cap v ad w' (hin.below hb) (by omega))
  have HCov := Lib.hid (@fnd_cov l v ad)
  clear hin
  have heq := neqP_run (fndP l v ad) (fndP l v ad)
  rw [decide_eq_true rfl] at heq
  have hgd := fun op a b => guardP op a b (fndP l v ad) (fndP l v ad)
  have hee : (askedE l v [ad] != askedE l v [ad]) = false := by simp
  generalize askedE l v [ad] = E at *
  generalize fndP l v ad = p at *
  obtain ⟨x0, x1, x2, x3, x4⟩ := p
  simp only at heq hgd
  cases hB : fndB l v ad
  · rw [hB] at HF HR HCov
    clear hB
    have HC := Lib.hid (fun (w : World) => plAt_new w ⟨x0, x1, x2, x3, x4⟩)
    go_enter Try.func7, Try.ntmps7
    go_wp2_with fail
    refine HLo.out.mono ?_; rintro e w0 ⟨rfl, rfl⟩
    go_wp2_with fail
    refine HF.out.mono ?_; rintro e w1 ⟨rfl, hb1⟩
    have HB1 := Lib.hid (hb1.alloc hb1.size (.cells #[.int .i64 x0, .int .i64 x1, .int .i64 x2, .int .i64 x3, .int .i64 x4] 38))
    obtain ⟨c0, c1, c2, c3, c4⟩ := HC.out w1
    simp only at c0 c1 c2 c3 c4
    clear hb1
    go_wp2_with fail
    generalize w1.alloc (.cells #[.int .i64 x0, .int .i64 x1, .int .i64 x2, .int .i64 x3, .int .i64 x4] 38) = w2 at *
    generalize w1.heap.size = q1 at *
    have HP1 : Hid (PlAt w2 q1 0 ⟨x0, x1, x2, x3, x4⟩) := Lib.hid ⟨c0, c1, c2, c3, c4⟩
    clear c0 c1 c2 c3 c4
    refine (HR.out w2 HB1.out).mono ?_; rintro e w3 ⟨rfl, hb3⟩
    have HB3 := Lib.hid ((HB1.out.trans (hb3.mono HB1.out.size)).alloc (Nat.le_trans HB1.out.size hb3.size) (.cells #[.int .i64 x0, .int .i64 x1, .int .i64 x2, .int .i64 x3, .int .i64 x4] 38))
    obtain ⟨d0, d1, d2, d3, d4⟩ := HP1.out.keep (hb3.trans ((Below.refl _ _).alloc hb3.size (.cells #[.int .i64 x0, .int .i64 x1, .int .i64 x2, .int .i64 x3, .int .i64 x4] 38)))
    obtain ⟨c0, c1, c2, c3, c4⟩ := HC.out w3
    simp only at c0 c1 c2 c3 c4 d0 d1 d2 d3 d4
    clear hb3
    go_wp2_with fail
    refine (HK.out _).mono ?_; rintro e w4 ⟨rfl, hb4⟩
    go_wp2_with fail
    go_ret
    exact ⟨rfl, HB3.out.trans (hb4.mono HB3.out.size)⟩
  · rw [hB] at HF HR HCov
    obtain ⟨hc1, hc2, hc3⟩ := HCov.out rfl
    have hbb : (x2 == v) = true := beq_iff_eq.2 hc1
    clear hB hc1 HCov
    have HC := Lib.hid (fun (w : World) => plAt_new w ⟨x0, x1, x2, x3, x4⟩)
    go_enter Try.func7, Try.ntmps7
    go_wp2_with fail
    refine HLo.out.mono ?_; rintro e w0 ⟨rfl, rfl⟩
    go_wp2_with fail
    refine HF.out.mono ?_; rintro e w1 ⟨rfl, hb1⟩
    have HB1 := Lib.hid (hb1.alloc hb1.size (.cells #[.int .i64 x0, .int .i64 x1, .int .i64 x2, .int .i64 x3, .int .i64 x4] 38))
    obtain ⟨c0, c1, c2, c3, c4⟩ := HC.out w1
    simp only at c0 c1 c2 c3 c4
    clear hb1
    go_wp2_with fail
    generalize w1.alloc (.cells #[.int .i64 x0, .int .i64 x1, .int .i64 x2, .int .i64 x3, .int .i64 x4] 38) = w2 at *
    generalize w1.heap.size = q1 at *
    have HP1 : Hid (PlAt w2 q1 0 ⟨x0, x1, x2, x3, x4⟩) := Lib.hid ⟨c0, c1, c2, c3, c4⟩
    clear c0 c1 c2 c3 c4
    refine (HR.out w2 HB1.out).mono ?_; rintro e w3 ⟨rfl, hb3⟩
    have HB3 := Lib.hid ((HB1.out.trans (hb3.mono HB1.out.size)).alloc (Nat.le_trans HB1.out.size hb3.size) (.cells #[.int .i64 x0, .int .i64 x1, .int .i64 x2, .int .i64 x3, .int .i64 x4] 38))
    obtain ⟨d0, d1, d2, d3, d4⟩ := HP1.out.keep (hb3.trans ((Below.refl _ _).alloc hb3.size (.cells #[.int .i64 x0, .int .i64 x1, .int .i64 x2, .int .i64 x3, .int .i64 x4] 38)))
    obtain ⟨c0, c1, c2, c3, c4⟩ := HC.out w3
    simp only at c0 c1 c2 c3 c4 d0 d1 d2 d3 d4
    clear hb3
    go_wp2_with fail
    refine (HK.out _).mono ?_; rintro e w4 ⟨rfl, hb4⟩
    go_wp2_with fail
    go_ret
    exact ⟨rfl, HB3.out.trans (hb4.mono HB3.out.size)⟩
end Go.Proofs.Ytmhneonebjcieaa
