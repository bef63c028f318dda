/- The walk of find of the document. -/
import Derived.Test.YtmhneonebjcieaaFN
namespace Go.Proofs.Ytmhneonebjcieaa
open Go.RowKit

set_option maxRecDepth 100000 in
set_option maxHeartbeats 2000000 in
theorem rfind_any (l : List Pl) (a : Option Addr) (cap : Nat) (v ad : Int) (w : World) (hin : PlsIn w a l) (hl : l.length ≤ 1000) :
    Calls Try.prog 46 #[.slice a l.length cap, .int .i64 v, .int .i64 ad] w fun e w' => e = .returned (.tuple #[(.agg #[.int .i64 (foundP l v ad).fr, .int .i64 (foundP l v ad).to, .int .i64 (foundP l v ad).va, .int .i64 (foundP l v ad).ki, .int .i64 (foundP l v ad).nn]), .bool (isFound l v ad)]) ∧ Below w.heap.size w w' := by
  have HI := Lib.hid hin
  have HMiss : Hid ((∀ j, j < l.length → covers v ad (at' l j) = false) → foundP l v ad = noPl ∧ isFound l v ad = false) := Lib.hid fun h => found_none (find_miss h)
  have HHit : Hid (∀ k, k < l.length → covers v ad (at' l k) = true → (∀ j, j < k → covers v ad (at' l j) = false) → foundP l v ad = at' l k ∧ isFound l v ad = true) := Lib.hid fun k h1 h2 h3 => found_some (find_hit h1 h2 h3)
  clear hin
  generalize foundP l v ad = p at *
  generalize isFound l v ad = b at *
  have hbx : BoxAt (w.alloc (.cells #[.int .i64 0, .int .i64 0, .int .i64 0, .int .i64 0, .int .i64 0] 38)) w.heap.size 0 0 0 0 0 := ⟨heap_at _ _ _ rfl⟩
  have HB1 := Lib.hid ((Below.refl w.heap.size w).alloc (Nat.le_refl _) (.cells #[.int .i64 0, .int .i64 0, .int .i64 0, .int .i64 0, .int .i64 0] 38))
  have HBx := Lib.hid hbx; clear hbx
  go_enter Try.func46, Try.ntmps46
  go_wp2_with fail
  generalize w.alloc (.cells #[.int .i64 0, .int .i64 0, .int .i64 0, .int .i64 0, .int .i64 0] 38) = w1 at *
  obtain ⟨q, hq⟩ : ∃ q, w.heap.size = q := ⟨_, rfl⟩
  rw [hq] at HBx
  have hwq : w.heap.size ≤ q := by omega
  rw [hq]
  have HQ := Lib.hid hq; clear hq
  go_loop [8] (fun i => ∃ k : Nat, k ≤ l.length ∧ i = .int .i64 k ∧ (∀ j, j < k → covers v ad (at' l j) = false)) (fun i => l.length - (intOf i).toNat)
  case atStart => exact ⟨0, Nat.zero_le _, rfl, fun j hj => absurd hj (Nat.not_lt_zero _)⟩
  case round =>
    obtain ⟨k, hk, rfl, hny⟩ := hrel
    have HN := Lib.hid hny; clear hny
    by_cases hlt : k < l.length
    · have hki : (k : Int) < (l.length : Int) := by omega
      have hk0 : (0 : Int) ≤ (k : Int) := by omega
      obtain ⟨b', off, rfl, hc⟩ := HI.out.below HB1.out k hlt
      have HHk := Lib.hid (HHit.out k hlt)
      have HNx : Hid (covers v ad (at' l k) = false → ∀ j, j < k + 1 → covers v ad (at' l j) = false) := Lib.hid fun h j hj => by
        by_cases e : j = k
        · rw [e]; exact h
        · exact HN.out j (by omega)
      generalize at' l k = x at *
      obtain ⟨x0, x1, x2, x3, x4⟩ := x
      obtain ⟨c0, c1, c2, c3, c4⟩ := hc
      simp only at c0 c1 c2 c3 c4
      by_cases hv : x2 = v
      rotate_left
      · have HR := Lib.hid (HNx.out (by unfold covers; rw [decide_eq_false (show ¬ (⟨x0, x1, x2, x3, x4⟩ : Pl).va = v from hv)]; rfl))
        have hb1 : (x2 == v) = false := beq_eq_false_iff_ne.2 hv
        have hb2 : decide (x2 = v) = false := decide_eq_false hv
        clear hv HNx HHk
        go_wp2_with fail
        go_round
        case rel => exact ⟨k + 1, by omega, by go_num, HR.out⟩
        case measure => simp [intOf]; omega
      have hb1 : (x2 == v) = true := beq_iff_eq.2 hv
      have hb2 : decide (x2 = v) = true := decide_eq_true hv
      by_cases hf : x0 ≤ ad
      rotate_left
      · have HR := Lib.hid (HNx.out (by unfold covers; rw [decide_eq_false (show ¬ (⟨x0, x1, x2, x3, x4⟩ : Pl).fr ≤ ad from hf), Bool.false_and, Bool.and_false]))
        clear hv HNx HHk
        go_wp2_with fail
        go_round
        case rel => exact ⟨k + 1, by omega, by go_num, HR.out⟩
        case measure => simp [intOf]; omega
      by_cases ht : ad < x1
      rotate_left
      · have HR := Lib.hid (HNx.out (by unfold covers; rw [decide_eq_false (show ¬ ad < (⟨x0, x1, x2, x3, x4⟩ : Pl).to from ht), Bool.and_false, Bool.and_false]))
        clear hv HNx HHk
        go_wp2_with fail
        go_round
        case rel => exact ⟨k + 1, by omega, by go_num, HR.out⟩
        case measure => simp [intOf]; omega
      have HR := Lib.hid (HHk.out (by unfold covers; simp [hv, hf, ht]) HN.out)
      obtain ⟨e0, e1, e2, e3, e4, f0, f1, f2, f3, f4, h0, h1, h2, h3, h4⟩ := HBx.out.five ⟨x0, x1, x2, x3, x4⟩
      have HB4 := Lib.hid (below_five HB1.out hwq (.int .i64 x0) (.int .i64 x1) (.int .i64 x2) (.int .i64 x3) (.int .i64 x4))
      simp only at h0 h1 h2 h3 h4
      clear hv HNx HHk
      go_wp2_with fail
      exact bodyPost_ret (v := .tuple #[.agg #[.int .i64 x0, .int .i64 x1, .int .i64 x2, .int .i64 x3, .int .i64 x4], .bool true]) (by simp [results, Try.results46, go_sem, h0, h1, h2, h3, h4]) rfl ⟨by rw [HR.out.1, HR.out.2], HB4.out⟩
    · have HR := Lib.hid (HMiss.out fun j hj => HN.out j (by omega))
      have hki : ¬ (k : Int) < (l.length : Int) := by omega
      obtain ⟨e0, e1, e2, e3, e4, f0, f1, f2, f3, f4, h0, h1, h2, h3, h4⟩ := HBx.out.five noPl
      have HB4 := Lib.hid (below_five HB1.out hwq (.int .i64 0) (.int .i64 0) (.int .i64 0) (.int .i64 0) (.int .i64 0))
      simp only [noPl] at h0 h1 h2 h3 h4
      go_wp2_with fail
      exact bodyPost_ret (v := .tuple #[.agg #[.int .i64 0, .int .i64 0, .int .i64 0, .int .i64 0, .int .i64 0], .bool false]) (by simp [results, Try.results46, go_sem, h0, h1, h2, h3, h4]) rfl ⟨by rw [HR.out.1, HR.out.2]; rfl, HB4.out⟩
end Go.Proofs.Ytmhneonebjcieaa
