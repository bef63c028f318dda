/- The law TraceDecodes. -/
import Derived.Test.YtmhneonebjcieaaL1
namespace Go.Proofs.Ytmhneonebjcieaa
open Go.RowKit

theorem same_self (l : List Pl) {a a' : Option Addr} {cap cap' : Nat} {w : World} (hin : PlsIn w a l) (hin' : PlsIn w a' l) (hl : l.length ≤ 1000) :
    Calls Try.prog 18 #[.slice a l.length cap, .slice a' l.length cap'] w fun e w' => e = .returned (.bool true) ∧ Below w.heap.size w w' := by
  have := same_any l l a a' cap cap' w hin hin' hl
  rwa [decide_eq_true rfl] at this
theorem same_nil (w : World) : Calls Try.prog 18 #[.slice none 0 0, .slice none 0 0] w fun e w' => e = .returned (.bool true) ∧ Below w.heap.size w w' :=
  same_self [] (PlsIn.nil _ _) (PlsIn.nil _ _) (Nat.zero_le _)
theorem enc0_any (w : World) : Calls Try.prog 15 #[.slice none 0 0] w fun e w' => (∃ v, e = .returned (.tuple #[v, .int .i64 0])) ∧ Below w.heap.size w w' := by
  refine (encode_any [] none 0 w (PlsIn.nil _ _) (Nat.le_refl _) (by decide)).mono ?_
  rintro e w1 ⟨⟨v, rfl, hp⟩, hb⟩
  have hn : valE [] = 0 := by decide +kernel
  rw [hn]
  exact ⟨⟨_, rfl⟩, hb⟩
set_option maxRecDepth 100000 in
set_option maxHeartbeats 1000000 in
theorem traceDecodes_any (b : List Nat) (a : Option Addr) (cap : Nat) (w : World) (hin : BytesIn w a b) (hlc : b.length ≤ cap) (hby : ∀ x ∈ b, x < 256) (hab : b ≠ [] → ∀ q off, a = some ⟨q, off, none⟩ → q < w.heap.size) :
    Calls Try.prog 4 #[.slice a b.length cap] w fun e w' => e = .returned (.bool true) ∧ Below w.heap.size w w' := by
  have HK := Lib.hid known_any
  by_cases h4 : 4000 < b.length
  · have hi : (4000 : Int) < (b.length : Int) := by omega
    clear hin hab hby
    go_enter Try.func4, Try.ntmps4
    go_wp2_with fail
    refine (HK.out _).mono ?_; rintro e w2 ⟨rfl, hb2⟩
    go_wp2_with fail
    go_ret
    exact ⟨rfl, hb2⟩
  have hi : ¬ (4000 : Int) < (b.length : Int) := by omega
  have HDe := Lib.hid (decode_any b a cap w hin hlc (by omega) hby hab)
  have HI := Lib.hid hin
  have HRd := Lib.hid (fun (w' : World) (hb : Below w.heap.size w w') => rDecode_any b a cap w' (hin.below hb) (by omega) hby)
  have HBy := Lib.hid hby
  clear hin hab hby
  cases hd : decR b with
  | none =>
    have HD := Lib.hid hd; clear hd
    go_enter Try.func4, Try.ntmps4
    go_wp2_with fail
    refine HDe.out.mono ?_; rintro e w1 ⟨⟨v1, c1, rfl, hp1⟩, hb1⟩
    obtain ⟨rfl, rfl⟩ := dec_none HD.out hp1
    have HB1 := Lib.hid hb1
    clear hp1 hb1
    go_wp2_with fail
    refine (HRd.out w1 HB1.out).mono ?_; rintro e w2 ⟨⟨v2, c2, rfl, hp2⟩, hb2⟩
    obtain ⟨rfl, rfl⟩ := dec_none HD.out hp2
    have HB2 := Lib.hid (HB1.out.trans (hb2.mono HB1.out.size))
    clear hp2 hb2 HRd HDe
    go_wp2_with fail
    refine (same_nil _).mono ?_; rintro e w3 ⟨rfl, hb3⟩
    have HB3 := Lib.hid (HB2.out.trans (hb3.mono HB2.out.size))
    clear hb3
    go_wp2_with fail
    refine (enc0_any _).mono ?_; rintro e w4 ⟨⟨v4, rfl⟩, hb4⟩
    have HB4 := Lib.hid (HB3.out.trans (hb4.mono HB3.out.size))
    clear hb4
    go_wp2_with fail
    refine (HK.out _).mono ?_; rintro e w5 ⟨rfl, hb5⟩
    go_wp2_with fail
    go_ret
    exact ⟨rfl, HB4.out.trans (hb5.mono HB4.out.size)⟩
  | some l =>
    obtain ⟨ht, hbl⟩ := decR_back HBy.out hd
    have HD := Lib.hid hd; clear hd
    have hE := valE_zero.2 ht
    have hll := ht.len
    have HFull := Lib.hid (fun (B : Nat) (v : Value) (w : World) => @encPost_full l B v w hE)
    rw [hbl] at HFull
    have hpos : 0 < b.length := by
      rw [← hbl]
      unfold encB
      rw [List.length_append]
      have := List.length_pos_iff.2 (grp_ne l.length)
      omega
    obtain ⟨ba, bo, rfl, _⟩ := HI.out 0 hpos
    have HEn := Lib.hid (fun (w' : World) (a' : Option Addr) (cap' : Nat) (h1 : PlsIn w' a' l) (h2 : l.length ≤ cap') => encode_any l a' cap' w' h1 h2 (by omega))
    rw [hE] at HEn
    clear hE ht hbl
    go_enter Try.func4, Try.ntmps4
    go_wp2_with fail
    refine HDe.out.mono ?_; rintro e w1 ⟨⟨v1, c1, rfl, hp1⟩, hb1⟩
    obtain ⟨rfl, a1, k1, rfl, hlc1, hin1⟩ := dec_some HD.out hp1
    have HB1 := Lib.hid hb1; have HI1 := Lib.hid hin1
    clear hp1 hb1 hin1
    go_wp2_with fail
    refine (HRd.out w1 HB1.out).mono ?_; rintro e w2 ⟨⟨v2, c2, rfl, hp2⟩, hb2⟩
    obtain ⟨rfl, a2, k2, rfl, hlc2, hin2⟩ := dec_some HD.out hp2
    have HB2 := Lib.hid (HB1.out.trans (hb2.mono HB1.out.size))
    have HI2 := Lib.hid (HI1.out.below hb2)
    have HSm := Lib.hid (same_self l (cap := k1) (cap' := k2) HI2.out hin2 (by omega))
    clear hp2 hb2 hin2 HRd HDe
    go_wp2_with fail
    refine HSm.out.mono ?_; rintro e w3 ⟨rfl, hb3⟩
    have HB3 := Lib.hid (HB2.out.trans (hb3.mono HB2.out.size))
    have HI3 := Lib.hid (HI2.out.below hb3)
    clear hb3
    go_wp2_with fail
    refine (HEn.out _ _ _ HI3.out hlc1).mono ?_; rintro e w4 ⟨⟨v4, rfl, hp4⟩, hb4⟩
    obtain ⟨g4, c4, rfl, hlc4, hin4, hg4, _, _⟩ := HFull.out _ _ _ hp4
    have HB4 := Lib.hid (HB3.out.trans (hb4.mono HB3.out.size))
    have cv1 := conv_bytes (cap := c4) hin4
    have cv2 := conv_bytes (cap := cap) (HI.out.below HB4.out)
    generalize strN b = sb at *
    clear hp4 hb4 hin4
    go_wp2_with fail
    refine (HK.out _).mono ?_; rintro e w5 ⟨rfl, hb5⟩
    go_wp2_with fail
    go_ret
    exact ⟨rfl, HB4.out.trans (hb5.mono HB4.out.size)⟩
end Go.Proofs.Ytmhneonebjcieaa
