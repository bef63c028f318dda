/- The law TraceTables. -/
import Derived.Test.YtmhneonebjcieaaVB
import Derived.Test.YtmhneonebjcieaaSI
import Derived.Test.YtmhneonebjcieaaL1
namespace Go.Proofs.Ytmhneonebjcieaa
open Go.RowKit

def varsR (l : List Pl) (ad : Int) : List Nat := if askedE l 0 [ad] = 0 then varsK l ad 64 else []
theorem varsR_len (l : List Pl) (ad : Int) : (varsR l ad).length ≤ 64 := by
  unfold varsR
  split
  · exact varsK_len _ _ _
  · simp
theorem var_form {l : List Pl} {ad : Int} {B : Nat} {v : Value} {w : World} (h : VarPost l ad B v w) : ∃ a cap, v = .slice a (varsR l ad).length cap ∧ NatsIn w a (varsR l ad) := by
  unfold VarPost at h
  unfold varsR
  by_cases hE : askedE l 0 [ad] = 0
  · rw [if_pos hE] at h ⊢
    exact natsIn_of_owns h
  · rw [if_neg hE] at h ⊢
    exact ⟨none, 0, h, fun k hk => absurd hk (Nat.not_lt_zero _)⟩
set_option maxRecDepth 100000 in
set_option maxHeartbeats 1000000 in
theorem traceTables_any (l : List Pl) (a : Option Addr) (cap : Nat) (ad : Int) (w : World) (hin : PlsIn w a l) (hlc : l.length ≤ cap) :
    Calls Try.prog 9 #[.slice a l.length cap, .int .i64 ad] w fun e w' => e = .returned (.bool true) ∧ Below w.heap.size w w' := by
  have HK := Lib.hid known_any
  by_cases h100 : 100 < l.length
  · clear hin
    go_enter Try.func9, Try.ntmps9
    go_wp2_with ((with_reducible refine (long_yes h100 a cap _).mono ?_); rintro e w1 ⟨rfl, rfl⟩)
    refine (HK.out _).mono ?_; rintro e w2 ⟨rfl, hb2⟩
    go_wp2_with fail
    go_ret
    exact ⟨rfl, hb2⟩
  have HLo := Lib.hid (long_no h100 a cap w)
  have HF := Lib.hid (Variables_any l a cap ad w hin hlc (by omega))
  have HR := Lib.hid (fun (w' : World) (hb : Below w.heap.size w w') => rVariables_any l a cap ad w' (hin.below hb) (by omega))
  have HV := Lib.hid (fun (w' : World) (hb : Below w.heap.size w w') => valid_any l a cap w' (hin.below hb) hlc (by omega))
  have HW := Lib.hid (fun (w' : World) (hb : Below w.heap.size w w') => rValid_any l a cap w' (hin.below hb) (by omega))
  have hvl := varsR_len l ad
  have HForm : Hid (∀ B v w, VarPost l ad B v w → ∃ a cap, v = .slice a (varsR l ad).length cap ∧ NatsIn w a (varsR l ad)) := Lib.hid fun B v w h => var_form h
  clear hin
  have hee : (askedE l 0 [ad] == askedE l 0 [ad]) = true := by simp
  have hvv : (valE l == valE l) = true := by simp
  generalize askedE l 0 [ad] = E at *
  generalize valE l = V at *
  generalize varsR l ad = xs at *
  go_enter Try.func9, Try.ntmps9
  go_wp2_with fail
  refine HLo.out.mono ?_; rintro e w0 ⟨rfl, rfl⟩
  go_wp2_with fail
  refine HF.out.mono ?_; rintro e w1 ⟨⟨v1, rfl, hp1⟩, hb1⟩
  obtain ⟨a1, c1, rfl, hn1⟩ := HForm.out _ _ _ hp1
  have HB1 := Lib.hid hb1; have HN1 := Lib.hid hn1
  clear hp1 hn1 hb1
  go_wp2_with fail
  refine (HR.out w1 HB1.out).mono ?_; rintro e w2 ⟨⟨v2, rfl, hp2⟩, hb2⟩
  obtain ⟨a2, c2, rfl, hn2⟩ := HForm.out _ _ _ hp2
  have HB2 := Lib.hid (HB1.out.trans (hb2.mono HB1.out.size)); have HN2 := Lib.hid (HN1.out.below hb2); have HM2 := Lib.hid hn2
  clear hp2 hn2 hb2
  go_wp2_with fail
  refine (HV.out w2 HB2.out).mono ?_; rintro e w3 ⟨rfl, hb3⟩
  have HB3 := Lib.hid (HB2.out.trans (hb3.mono HB2.out.size)); have HN3 := Lib.hid (HN2.out.below hb3); have HM3 := Lib.hid (HM2.out.below hb3)
  clear hb3
  go_wp2_with fail
  refine (HW.out w3 HB3.out).mono ?_; rintro e w4 ⟨rfl, hb4⟩
  have HB4 := Lib.hid (HB3.out.trans (hb4.mono HB3.out.size)); have HS := Lib.hid (sameInts_self xs a1 a2 c1 c2 w4 (HN3.out.below hb4) (HM3.out.below hb4) (by omega))
  clear hb4
  go_wp2_with fail
  refine HS.out.mono ?_; rintro e w5 ⟨rfl, hb5⟩
  have HB5 := Lib.hid (HB4.out.trans (hb5.mono HB4.out.size))
  clear hb5
  go_wp2_with fail
  refine (HK.out _).mono ?_; rintro e w6 ⟨rfl, hb6⟩
  go_wp2_with fail
  go_ret
  exact ⟨rfl, HB5.out.trans (hb6.mono HB5.out.size)⟩
end Go.Proofs.Ytmhneonebjcieaa
