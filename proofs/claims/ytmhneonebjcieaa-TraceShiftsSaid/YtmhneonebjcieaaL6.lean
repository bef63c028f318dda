/- The law TraceShifts. -/
import Derived.Test.YtmhneonebjcieaaSK
import Derived.Test.YtmhneonebjcieaaL2
namespace Go.Proofs.Ytmhneonebjcieaa
open Go.RowKit

theorem shift_at {l : List Pl} {d : Int} {k : Nat} (h : k < l.length) : at' (l.map (shiftP d)) k = shiftP d (at' l k) := by
  unfold at'
  rw [List.getD_eq_getElem?_getD, List.getD_eq_getElem?_getD, List.getElem?_map, List.getElem?_eq_getElem h]; rfl
theorem shift_fits {l : List Pl} {d : Int} (hE : shiftE l d = 0) : Table l ∧ ∀ k, k < l.length → fitsB d (at' l k) = true := by
  unfold shiftE at hE
  by_cases hv : valE l = 0
  · rw [if_neg (by simp [hv])] at hE
    refine ⟨valE_zero.1 hv, fun k hk => ?_⟩
    cases hf : fitsB d (at' l k)
    · rw [if_pos (anyTo_true.2 ⟨k, hk, by rw [hf]; rfl⟩)] at hE
      exact absurd hE (by decide)
    · rfl
  · rw [if_pos hv] at hE; exact absurd hE hv
theorem shift_table {l : List Pl} {d : Int} (hE : shiftE l d = 0) : Table (l.map (shiftP d)) := by
  obtain ⟨ht, hf⟩ := shift_fits hE
  refine ⟨by simpa using ht.len, fun i hi => ?_, fun i hi => ?_, fun i k hi hk => ?_⟩
  · have hi : i < l.length := by simpa using hi
    rw [shift_at hi]
    obtain ⟨f0, ft, t1, v0, v1, k0, k1, n0, n1⟩ := ht.good i hi
    have := fits_iff.1 (hf i hi)
    exact ⟨by show 0 ≤ _ + d; omega, by show _ + d < _ + d; omega, by show _ + d ≤ 32768; omega, v0, v1, k0, k1, n0, n1⟩
  · have hi : i + 1 < l.length := by simpa using hi
    rw [shift_at (by omega), shift_at hi]
    have := ltP_iff.1 (ht.asc i hi)
    rw [ltP_iff]
    simp only [shiftP]
    omega
  · have hi : i < l.length := by simpa using hi
    rw [shift_at hi, shift_at (by omega)]
    have h := ht.free i k hi hk
    have e : clash (shiftP d (at' l i)) (shiftP d (at' l k)) = clash (at' l i) (at' l k) := by
      unfold clash
      congr 2
      · exact decide_eq_decide.2 (by simp only [shiftP]; omega)
      · exact decide_eq_decide.2 (by simp only [shiftP]; omega)
    rw [e]; exact h
theorem shift_back {l : List Pl} {d : Int} : (l.map (shiftP d)).map (shiftP (-d)) = l := by
  rw [List.map_map]
  refine (List.map_congr_left fun p _ => ?_).trans (List.map_id l)
  exact Pl.ext' (by show p.fr + d + -d = p.fr; omega) (by show p.to + d + -d = p.to; omega) rfl rfl rfl
theorem shift_again {l : List Pl} {d : Int} (hE : shiftE l d = 0) : shiftE (l.map (shiftP d)) (-d) = 0 := by
  have ht := shift_table hE
  obtain ⟨ht0, hf⟩ := shift_fits hE
  refine shiftE_good (valE_zero.2 ht) fun k hk => ?_
  have hk : k < l.length := by simpa using hk
  rw [shift_at hk, fits_iff]
  obtain ⟨f0, ft, t1, v0, v1, k0, k1, n0, n1⟩ := ht0.good k hk
  simp only [shiftP]
  omega
theorem shift_form {l : List Pl} {d : Int} {B : Nat} {v : Value} {w : World} (hE : shiftE l d = 0) (h : ShPost l d B v w) : ∃ a cap, v = .slice a l.length cap ∧ l.length ≤ cap ∧ PlsIn w a (l.map (shiftP d)) ∧ FlatA a := by
  unfold ShPost at h
  rw [if_pos hE] at h
  have h' : w.ownsRow B 38 5 v (l.map (shiftP d)).length (encPl (l.map (shiftP d))) := by rw [List.length_map]; exact h
  obtain ⟨a, cap, e, hlc, hin⟩ := plSl_of_owns h'
  rw [List.length_map] at e hlc
  refine ⟨a, cap, e, hlc, hin, fun x hx => ?_⟩
  rcases h.2 with ⟨e2, _⟩ | ⟨g, c2, cur, e2, _⟩
  · rw [e2] at e
    simp only [Value.slice.injEq] at e
    rw [← e.1] at hx; cases hx
  · rw [e2] at e
    simp only [Value.slice.injEq] at e
    rw [← e.1] at hx
    simp only [Option.some.injEq] at hx
    rw [← hx]
theorem shift_nil {l : List Pl} {d : Int} {B : Nat} {v : Value} {w : World} (hE : shiftE l d ≠ 0) (h : ShPost l d B v w) : v = .slice none 0 0 := by
  unfold ShPost at h
  rw [if_neg hE] at h
  exact h
theorem shiftE_nil (d : Int) : shiftE [] d = 0 := shiftE_good (by decide +kernel) fun k hk => absurd hk (Nat.not_lt_zero _)
/-- No place shifted by whatever. -/
theorem shift0_any (a : Option Addr) (cap : Nat) (d : Int) (w : World) (hf : FlatA a) : Calls Try.prog 20 #[.slice a 0 cap, .int .i64 d] w fun e w' => (∃ a' cap', e = .returned (.tuple #[.slice a' 0 cap', .int .i64 0])) ∧ Below w.heap.size w w' := by
  refine (Shift_any [] a cap d w (PlsIn.nil _ _) hf (Nat.zero_le _) (by decide)).mono ?_
  rintro e w1 ⟨⟨v, rfl, hp⟩, hb⟩
  obtain ⟨a', cap', rfl, _⟩ := shift_form (shiftE_nil d) hp
  rw [shiftE_nil]
  exact ⟨⟨a', cap', rfl⟩, hb⟩
set_option maxRecDepth 100000 in
set_option maxHeartbeats 1000000 in
theorem traceShifts_any (l : List Pl) (a : Option Addr) (cap : Nat) (d : Int) (w : World) (hin : PlsIn w a l) (hlc : l.length ≤ cap) (hf : FlatA a) :
    Calls Try.prog 6 #[.slice a l.length cap, .int .i64 d] w fun e w' => e = .returned (.bool true) ∧ Below w.heap.size w w' := by
  have HK := Lib.hid known_any
  by_cases h100 : 100 < l.length
  · clear hin hf
    go_enter Try.func6, Try.ntmps6
    go_wp2_with ((with_reducible refine (long_yes h100 a cap _).mono ?_); rintro e w1 ⟨rfl, rfl⟩)
    refine (HK.out _).mono ?_; rintro e w2 ⟨rfl, hb2⟩
    go_wp2_with fail
    go_ret
    exact ⟨rfl, hb2⟩
  have HLo := Lib.hid (long_no h100 a cap w)
  have HF := Lib.hid (Shift_any l a cap d w hin hf hlc (by omega))
  have HR := Lib.hid (fun (w' : World) (hb : Below w.heap.size w w') => rShift_any l a cap d w' (hin.below hb) (by omega))
  have HI := Lib.hid hin
  clear hin hf
  by_cases hE : shiftE l d = 0
  rotate_left
  · have HNil := Lib.hid (fun B v w h => @shift_nil l d B v w hE h)
    have hne : (shiftE l d != 0) = true := bne_iff_ne.2 hE
    have hee : (shiftE l d != shiftE l d) = false := by simp
    generalize shiftE l d = E at *
    clear hE
    go_enter Try.func6, Try.ntmps6
    go_wp2_with fail
    refine HLo.out.mono ?_; rintro e w0 ⟨rfl, rfl⟩
    go_wp2_with fail
    refine HF.out.mono ?_; rintro e w1 ⟨⟨v1, rfl, hp1⟩, hb1⟩
    obtain rfl := HNil.out _ _ _ hp1
    have HB1 := Lib.hid hb1
    clear hp1 hb1
    go_wp2_with fail
    refine (HR.out w1 HB1.out).mono ?_; rintro e w2 ⟨⟨v2, rfl, hp2⟩, hb2⟩
    obtain rfl := HNil.out _ _ _ hp2
    have HB2 := Lib.hid (HB1.out.trans (hb2.mono HB1.out.size))
    clear hp2 hb2 HR HF
    go_wp2_with fail
    refine (same_nil _).mono ?_; rintro e w3 ⟨rfl, hb3⟩
    have HB3 := Lib.hid (HB2.out.trans (hb3.mono HB2.out.size))
    clear hb3
    go_wp2_with fail
    refine (shift0_any none 0 _ _ (fun x h => by cases h)).mono ?_; rintro e w4 ⟨⟨a4, c4, rfl⟩, hb4⟩
    have HB4 := Lib.hid (HB3.out.trans (hb4.mono HB3.out.size))
    clear hb4
    go_wp2_with fail
    refine (HK.out _).mono ?_; rintro e w5 ⟨rfl, hb5⟩
    go_wp2_with fail
    go_ret
    exact ⟨rfl, HB4.out.trans (hb5.mono HB4.out.size)⟩
  have HForm := Lib.hid (fun B v w h => @shift_form l d B v w hE h)
  have HSelf := Lib.hid (fun a a' cap cap' w h1 h2 => @same_self (l.map (shiftP d)) a a' cap cap' w h1 h2 (by rw [List.length_map]; omega))
  rw [List.length_map] at HSelf
  by_cases h0 : l = []
  · have h0' : l.map (shiftP d) = [] := by rw [h0]; rfl
    have hl0 : l.length = 0 := by rw [h0]; rfl
    have HFl := Lib.hid (fun a a' cap cap' w => @same_self [] a a' cap cap' w (PlsIn.nil _ _) (PlsIn.nil _ _) (Nat.zero_le _))
    have HL0 := Lib.hid hl0
    rw [hE, hl0] at HF HR
    rw [hl0] at HForm HLo
    clear hE h0 h0' HSelf HI
    rw [hl0]
    clear hl0
    go_enter Try.func6, Try.ntmps6
    go_wp2_with fail
    refine HLo.out.mono ?_; rintro e w0 ⟨rfl, rfl⟩
    go_wp2_with fail
    refine HF.out.mono ?_; rintro e w1 ⟨⟨v1, rfl, hp1⟩, hb1⟩
    obtain ⟨a1, c1, rfl, _, _, hf1⟩ := HForm.out _ _ _ hp1
    have HB1 := Lib.hid hb1; have HFl1 := Lib.hid hf1
    clear hp1 hb1 hf1
    go_wp2_with fail
    refine (HR.out w1 HB1.out).mono ?_; rintro e w2 ⟨⟨v2, rfl, hp2⟩, hb2⟩
    obtain ⟨a2, c2, rfl, _, _, _⟩ := HForm.out _ _ _ hp2
    have HB2 := Lib.hid (HB1.out.trans (hb2.mono HB1.out.size))
    clear hp2 hb2 HR HF
    go_wp2_with fail
    refine (HFl.out _ _ _ _ _).mono ?_; rintro e w3 ⟨rfl, hb3⟩
    have HB3 := Lib.hid (HB2.out.trans (hb3.mono HB2.out.size))
    clear hb3
    go_wp2_with fail
    refine (shift0_any a1 c1 _ _ HFl1.out).mono ?_; rintro e w4 ⟨⟨a4, c4, rfl⟩, hb4⟩
    have HB4 := Lib.hid (HB3.out.trans (hb4.mono HB3.out.size))
    clear hb4
    go_wp2_with fail
    refine (HFl.out _ _ _ _ _).mono ?_; rintro e w5 ⟨rfl, hb5⟩
    have HB5 := Lib.hid (HB4.out.trans (hb5.mono HB4.out.size))
    clear hb5
    go_wp2_with fail
    refine (HK.out _).mono ?_; rintro e w6 ⟨rfl, hb6⟩
    go_wp2_with fail
    go_ret
    exact ⟨rfl, HB5.out.trans (hb6.mono HB5.out.size)⟩
  have hpos : 0 < l.length := List.length_pos_iff.2 h0
  obtain ⟨ht, hfit⟩ := shift_fits hE
  have hd := fits_iff.1 (hfit 0 hpos)
  obtain ⟨f0, ft, t1, _, _, _, _, _, _⟩ := ht.good 0 hpos
  have hd1 : -32768 ≤ d := by omega
  have hd2 : d ≤ 32768 := by omega
  have hE2 := shift_again hE
  have HBack := Lib.hid (fun B v w h => @shift_form (l.map (shiftP d)) (-d) B v w hE2 h)
  have HSh := Lib.hid (fun a cap w h1 h2 (h3 : l.length ≤ cap) => Shift_any (l.map (shiftP d)) a cap (-d) w h1 h2 (by rw [List.length_map]; exact h3) (by rw [List.length_map]; omega))
  rw [shift_back, List.length_map] at HBack
  rw [hE2, List.length_map] at HSh
  rw [hE] at HF HR
  clear hE hE2 h0 ht hfit hd f0 ft t1
  go_enter Try.func6, Try.ntmps6
  go_wp2_with fail
  refine HLo.out.mono ?_; rintro e w0 ⟨rfl, rfl⟩
  go_wp2_with fail
  refine HF.out.mono ?_; rintro e w1 ⟨⟨v1, rfl, hp1⟩, hb1⟩
  obtain ⟨a1, c1, rfl, hlc1, hin1, hf1⟩ := HForm.out _ _ _ hp1
  have HB1 := Lib.hid hb1; have HFl1 := Lib.hid hf1; have HI1 := Lib.hid hin1
  clear hp1 hb1 hf1 hin1
  go_wp2_with fail
  refine (HR.out w1 HB1.out).mono ?_; rintro e w2 ⟨⟨v2, rfl, hp2⟩, hb2⟩
  obtain ⟨a2, c2, rfl, hlc2, hin2, _⟩ := HForm.out _ _ _ hp2
  have HB2 := Lib.hid (HB1.out.trans (hb2.mono HB1.out.size))
  have HI2 := Lib.hid (HI1.out.below hb2); have HJ2 := Lib.hid hin2
  clear hp2 hb2 hin2 HR HF
  go_wp2_with fail
  refine (HSelf.out _ _ _ _ _ HI2.out HJ2.out).mono ?_; rintro e w3 ⟨rfl, hb3⟩
  have HB3 := Lib.hid (HB2.out.trans (hb3.mono HB2.out.size)); have HI3 := Lib.hid (HI2.out.below hb3)
  clear hb3
  go_wp2_with fail
  refine (HSh.out _ _ _ HI3.out HFl1.out hlc1).mono ?_; rintro e w4 ⟨⟨v4, rfl, hp4⟩, hb4⟩
  obtain ⟨a4, c4, rfl, hlc4, hin4, _⟩ := HBack.out _ _ _ hp4
  have HB4 := Lib.hid (HB3.out.trans (hb4.mono HB3.out.size))
  have HS4 := Lib.hid (same_self l (cap := c4) (cap' := cap) hin4 (HI.out.below HB4.out) (by omega))
  clear hb4 hp4 hin4
  go_wp2_with fail
  refine HS4.out.mono ?_; rintro e w5 ⟨rfl, hb5⟩
  have HB5 := Lib.hid (HB4.out.trans (hb5.mono HB4.out.size))
  clear hb5
  go_wp2_with fail
  refine (HK.out _).mono ?_; rintro e w6 ⟨rfl, hb6⟩
  go_wp2_with fail
  go_ret
  exact ⟨rfl, HB5.out.trans (hb6.mono HB5.out.size)⟩
end Go.Proofs.Ytmhneonebjcieaa
