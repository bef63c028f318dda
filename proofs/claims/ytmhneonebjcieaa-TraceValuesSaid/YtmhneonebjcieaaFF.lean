/- The walks of Find of program and document. -/
import Derived.Test.YtmhneonebjcieaaFR
namespace Go.Proofs.Ytmhneonebjcieaa
open Go.RowKit

def fndP (l : List Pl) (v ad : Int) : Pl := if askedE l v [ad] = 0 then foundP l v ad else noPl
def fndB (l : List Pl) (v ad : Int) : Bool := if askedE l v [ad] = 0 then isFound l v ad else false
theorem asked_good {l : List Pl} {v : Int} {ads : List Int} (h : askedE l v ads = 0) : Table l := by
  unfold askedE at h
  by_cases hE : valE l = 0
  · exact valE_zero.1 hE
  · rw [if_pos hE] at h; exact absurd h hE
theorem asked_one {l : List Pl} {v ad : Int} (hE : valE l = 0) : askedE l v [ad] = if within v 0 63 && within ad 0 32768 then 0 else 1 := by
  unfold askedE
  rw [if_neg (by simp [hE])]
  have h1 : sortedI [ad] = true := by unfold sortedI; simp
  rw [h1]
  simp [okAd]
theorem ints_one_new (w : World) (x : Int) : IntsIn (w.alloc (.cells #[.int .i64 x] 3)) (some ⟨w.heap.size, 0, none⟩) [x] := fun k hk => by
  have hk : k < 1 := hk
  obtain rfl : k = 0 := by omega
  exact ⟨_, _, rfl, by simp [go_sem]⟩
set_option maxRecDepth 100000 in
set_option maxHeartbeats 2000000 in
theorem Find_any (l : List Pl) (a : Option Addr) (cap : Nat) (v ad : Int) (w : World) (hin : PlsIn w a l) (hlc : l.length ≤ cap) (hl : l.length ≤ 1000) :
    Calls Try.prog 22 #[.slice a l.length cap, .int .i64 v, .int .i64 ad] w fun e w' => e = .returned (.tuple #[(.agg #[.int .i64 (fndP l v ad).fr, .int .i64 (fndP l v ad).to, .int .i64 (fndP l v ad).va, .int .i64 (fndP l v ad).ki, .int .i64 (fndP l v ad).nn]), .bool (fndB l v ad), .int .i64 (askedE l v [ad])]) ∧ Below w.heap.size w w' := by
  have HI := Lib.hid hin
  have hb1 : Below w.heap.size w (w.alloc (.cells #[.int .i64 0, .int .i64 0, .int .i64 0, .int .i64 0, .int .i64 0] 38)) := (Below.refl _ _).alloc (Nat.le_refl _) _
  have hb2 : Below w.heap.size w ((w.alloc (.cells #[.int .i64 0, .int .i64 0, .int .i64 0, .int .i64 0, .int .i64 0] 38)).alloc (.cells #[.int .i64 ad] 3)) := hb1.alloc (by simp) _
  have hi2 := ints_one_new (w.alloc (.cells #[.int .i64 0, .int .i64 0, .int .i64 0, .int .i64 0, .int .i64 0] 38)) ad
  have hbx : BoxAt ((w.alloc (.cells #[.int .i64 0, .int .i64 0, .int .i64 0, .int .i64 0, .int .i64 0] 38)).alloc (.cells #[.int .i64 ad] 3)) w.heap.size 0 0 0 0 0 := ⟨by rw [Below.heap_alloc _ _ _ (by simp)]; exact heap_at _ _ _ rfl⟩
  have HA := asked_any l a cap v [ad] (some ⟨w.heap.size + 1, 0, none⟩) 1 _ (hin.below hb2) hlc hl (by simpa using hi2) (by simp)
  have HA := Lib.hid HA
  have HB2 := Lib.hid hb2; have HBx := Lib.hid hbx
  have HTab := Lib.hid (fun h => @asked_good l v [ad] h)
  have HP0 : Hid (askedE l v [ad] = 0 → fndP l v ad = foundP l v ad ∧ fndB l v ad = isFound l v ad) := Lib.hid fun h => ⟨if_pos h, if_pos h⟩
  have HP1 : Hid (askedE l v [ad] ≠ 0 → fndP l v ad = noPl ∧ fndB l v ad = false) := Lib.hid fun h => ⟨if_neg h, if_neg h⟩
  clear hin hb1 hb2 hi2 hbx
  generalize askedE l v [ad] = E at *
  generalize fndP l v ad = P at *
  generalize fndB l v ad = B at *
  by_cases hE : E = 0
  · obtain ⟨rfl, rfl⟩ := HP0.out hE
    have HT := Lib.hid (HTab.out hE)
    have HF := Lib.hid (fun (w' : World) (hb : Below w.heap.size w w') => find_any l a cap v ad w' (HI.out.below hb) hl (fun k hk => HT.out.good k hk))
    subst hE
    generalize foundP l v ad = p at *
    generalize isFound l v ad = b at *
    obtain ⟨x0, x1, x2, x3, x4⟩ := p
    go_enter Try.func22, Try.ntmps22
    go_wp2_with fail
    refine HA.out.mono ?_; rintro e w1 ⟨rfl, hb1⟩
    have HB1 := Lib.hid (HB2.out.trans (hb1.mono HB2.out.size))
    have hbx1 : BoxAt w1 w.heap.size 0 0 0 0 0 := ⟨(hb1.block _ (by simp; omega)).trans HBx.out.blk⟩
    have HBx1 := Lib.hid hbx1
    have hs1 := hb1.size
    simp at hs1
    clear hb1 hbx1
    go_wp2_with fail
    refine (HF.out _ HB1.out).mono ?_; rintro e w2 ⟨rfl, hb2⟩
    have HB2 := Lib.hid (HB1.out.trans (hb2.mono HB1.out.size))
    have hs2 := hb2.size
    have hbx2 : BoxAt (w2.alloc (.cells #[.int .i64 x0, .int .i64 x1, .int .i64 x2, .int .i64 x3, .int .i64 x4] 38)) w.heap.size 0 0 0 0 0 := ⟨by rw [Below.heap_alloc _ _ _ (by omega)]; exact (hb2.block _ (by omega)).trans HBx1.out.blk⟩
    have HB3 := Lib.hid (HB2.out.alloc (Nat.le_trans HB1.out.size hs2) (.cells #[.int .i64 x0, .int .i64 x1, .int .i64 x2, .int .i64 x3, .int .i64 x4] 38))
    have HBx2 := Lib.hid hbx2
    have hpl : PlAt (w2.alloc (.cells #[.int .i64 x0, .int .i64 x1, .int .i64 x2, .int .i64 x3, .int .i64 x4] 38)) w2.heap.size 0 ⟨x0, x1, x2, x3, x4⟩ := ⟨by simp [go_sem], by simp [go_sem], by simp [go_sem], by simp [go_sem], by simp [go_sem]⟩
    obtain ⟨y0, y1, y2, y3, y4⟩ := hpl
    have HB4 := Lib.hid (below_five HB3.out (Nat.le_refl w.heap.size) (.int .i64 x0) (.int .i64 x1) (.int .i64 x2) (.int .i64 x3) (.int .i64 x4))
    obtain ⟨e0, e1, e2, e3, e4, f0, f1, f2, f3, f4, h0, h1, h2, h3, h4⟩ := HBx2.out.five ⟨x0, x1, x2, x3, x4⟩
    simp only at y0 y1 y2 y3 y4 h0 h1 h2 h3 h4
    clear hb2 hbx2
    go_wp2_with fail
    exact bodyPost_ret (v := .tuple #[.agg #[.int .i64 x0, .int .i64 x1, .int .i64 x2, .int .i64 x3, .int .i64 x4], .bool b, .int .i64 0]) (by simp [results, Try.results22, go_sem, h0, h1, h2, h3, h4]) rfl ⟨rfl, HB4.out⟩
  · obtain ⟨rfl, rfl⟩ := HP1.out hE
    have hne : (E != 0) = true := bne_iff_ne.2 hE
    clear hE
    go_enter Try.func22, Try.ntmps22
    go_wp2_with fail
    refine HA.out.mono ?_; rintro e w1 ⟨rfl, hb1⟩
    have HB1 := Lib.hid (HB2.out.trans (hb1.mono HB2.out.size))
    have hbx1 : BoxAt w1 w.heap.size 0 0 0 0 0 := ⟨(hb1.block _ (by simp; omega)).trans HBx.out.blk⟩
    have HBx1 := Lib.hid hbx1
    obtain ⟨e0, e1, e2, e3, e4, f0, f1, f2, f3, f4, h0, h1, h2, h3, h4⟩ := HBx1.out.five noPl
    have HB4 := Lib.hid (below_five HB1.out (Nat.le_refl w.heap.size) (.int .i64 0) (.int .i64 0) (.int .i64 0) (.int .i64 0) (.int .i64 0))
    simp only [noPl] at h0 h1 h2 h3 h4
    clear hb1 hbx1
    go_wp2_with fail
    exact bodyPost_ret (v := .tuple #[.agg #[.int .i64 0, .int .i64 0, .int .i64 0, .int .i64 0, .int .i64 0], .bool false, .int .i64 E]) (by simp [results, Try.results22, go_sem, h0, h1, h2, h3, h4]) rfl ⟨rfl, HB4.out⟩
end Go.Proofs.Ytmhneonebjcieaa
