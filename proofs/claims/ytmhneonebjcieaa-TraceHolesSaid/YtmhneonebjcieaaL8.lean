/- The law TraceHoles. -/
import Derived.Test.YtmhneonebjcieaaHR
import Derived.Test.YtmhneonebjcieaaL1
namespace Go.Proofs.Ytmhneonebjcieaa
open Go.RowKit

def holesR (l : List Pl) (v x y : Int) : StrL := if askedE l v [x, y] = 0 then holesK l v x (y - x).toNat else []
theorem holesR_len (l : List Pl) (v x y : Int) : (holesR l v x y).length ≤ 32768 := by
  unfold holesR
  split
  · rename_i h
    have := holesK_len l v x (y - x).toNat
    have := asked_two_ok h
    omega
  · simp
theorem hol_form {l : List Pl} {v x y : Int} {B : Nat} {u : Value} {w : World} (h : HolPost l v x y B u w) : ∃ a cap, u = .slice a (holesR l v x y).length cap ∧ StrIn w a (holesR l v x y) := by
  unfold HolPost at h
  unfold holesR
  by_cases hE : askedE l v [x, y] = 0
  · rw [if_pos hE] at h ⊢
    exact strIn_of_owns h
  · rw [if_neg hE] at h ⊢
    exact ⟨none, 0, h, fun k hk => absurd hk (Nat.not_lt_zero _)⟩
set_option maxRecDepth 100000 in
set_option maxHeartbeats 1000000 in
theorem traceHoles_any (l : List Pl) (a : Option Addr) (cap : Nat) (v x y : Int) (w : World) (hin : PlsIn w a l) (hlc : l.length ≤ cap) :
    Calls Try.prog 10 #[.slice a l.length cap, .int .i64 v, .agg #[.int .i64 x, .int .i64 y]] w fun e w' => e = .returned (.bool true) ∧ Below w.heap.size w w' := by
  have HK := Lib.hid known_any
  have hb0 : Below w.heap.size w (w.alloc (.cells #[.int .i64 x, .int .i64 y] 48)) := (Below.refl _ _).alloc (Nat.le_refl _) _
  have HB0 := Lib.hid hb0
  by_cases h100 : 100 < l.length
  · clear hin hb0
    go_enter Try.func10, Try.ntmps10
    go_wp2_with ((with_reducible refine (long_yes h100 a cap _).mono ?_); rintro e w1 ⟨rfl, rfl⟩)
    refine (HK.out _).mono ?_; rintro e w2 ⟨rfl, hb2⟩
    go_wp2_with fail
    go_ret
    exact ⟨rfl, HB0.out.trans (hb2.mono HB0.out.size)⟩
  have HLo := Lib.hid (long_no h100 a cap)
  have hin1 := hin.below hb0
  have c0 : (w.alloc (.cells #[.int .i64 x, .int .i64 y] 48)).cell? ⟨w.heap.size, 0, none⟩ = some (.int .i64 x) := by simp [go_sem]
  have c1 : (w.alloc (.cells #[.int .i64 x, .int .i64 y] 48)).cell? ⟨w.heap.size, 1, none⟩ = some (.int .i64 y) := by simp [go_sem]
  have HF := Lib.hid (Holes_any l a cap v x y _ hin1 hlc (by omega))
  have HR := Lib.hid (fun (w' : World) (hb : Below w.heap.size w w') => rHoles_any l a cap v x y w' (hin.below hb) (by omega))
  have HC0 := Lib.hid c0; have HC1 := Lib.hid c1
  have hvl := holesR_len l v x y
  have HForm : Hid (∀ B u w, HolPost l v x y B u w → ∃ a cap, u = .slice a (holesR l v x y).length cap ∧ StrIn w a (holesR l v x y)) := Lib.hid fun B u w h => hol_form h
  clear hin hin1 hb0
  have hee : (askedE l v [x, y] == askedE l v [x, y]) = true := by simp
  generalize askedE l v [x, y] = E at *
  generalize holesR l v x y = xs at *
  go_enter Try.func10, Try.ntmps10
  go_wp2_with fail
  refine (HLo.out _).mono ?_; rintro e w0 ⟨rfl, rfl⟩
  go_wp2_with fail
  refine HF.out.mono ?_; rintro e w1 ⟨⟨v1, rfl, hp1⟩, hb1⟩
  obtain ⟨a1, k1, rfl, hn1⟩ := HForm.out _ _ _ hp1
  have HB1 := Lib.hid (HB0.out.trans (hb1.mono HB0.out.size)); have HN1 := Lib.hid hn1
  have d0 := keep HC0.out hb1
  have d1 := keep HC1.out hb1
  clear hp1 hn1 hb1 c0 c1
  go_wp2_with fail
  refine (HR.out w1 HB1.out).mono ?_; rintro e w2 ⟨⟨v2, rfl, hp2⟩, hb2⟩
  obtain ⟨a2, k2, rfl, hn2⟩ := HForm.out _ _ _ hp2
  have HB2 := Lib.hid (HB1.out.trans (hb2.mono HB1.out.size)); have HN2 := Lib.hid (HN1.out.below hb2); have HM2 := Lib.hid hn2
  have HS := Lib.hid (sameStr_self xs a1 a2 k1 k2 w2 HN2.out HM2.out (by omega))
  clear hp2 hn2 hb2 d0 d1
  go_wp2_with fail
  refine HS.out.mono ?_; rintro e w5 ⟨rfl, hb5⟩
  have HB5 := Lib.hid (HB2.out.trans (hb5.mono HB2.out.size))
  clear hb5
  go_wp2_with fail
  refine (HK.out _).mono ?_; rintro e w6 ⟨rfl, hb6⟩
  go_wp2_with fail
  go_ret
  exact ⟨rfl, HB5.out.trans (hb6.mono HB5.out.size)⟩
end Go.Proofs.Ytmhneonebjcieaa
