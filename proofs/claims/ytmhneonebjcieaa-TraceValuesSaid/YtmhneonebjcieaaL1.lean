/- The laws TraceEncodes and TraceDecodes. -/
import Derived.Test.YtmhneonebjcieaaKN
namespace Go.Proofs.Ytmhneonebjcieaa
open Go.RowKit

theorem long_any (l : List Pl) (a : Option Addr) (cap : Nat) (w : World) : Calls Try.prog 13 #[.slice a l.length cap] w fun e w' => e = .returned (.bool (decide (100 < l.length))) ∧ w = w' := by
  by_cases h : 100 < l.length
  · have hi : (100 : Int) < (l.length : Int) := by omega
    rw [decide_eq_true h]
    go_enter Try.func13, Try.ntmps13
    go_wp2_with fail
    go_ret
    exact ⟨rfl, rfl⟩
  · have hi : ¬ (100 : Int) < (l.length : Int) := by omega
    rw [decide_eq_false h]
    go_enter Try.func13, Try.ntmps13
    go_wp2_with fail
    go_ret
    exact ⟨rfl, rfl⟩
theorem long_yes {l : List Pl} (h : 100 < l.length) (a : Option Addr) (cap : Nat) (w : World) : Calls Try.prog 13 #[.slice a l.length cap] w fun e w' => e = .returned (.bool true) ∧ w = w' := by
  have := long_any l a cap w
  rwa [decide_eq_true h] at this
theorem long_no {l : List Pl} (h : ¬ 100 < l.length) (a : Option Addr) (cap : Nat) (w : World) : Calls Try.prog 13 #[.slice a l.length cap] w fun e w' => e = .returned (.bool false) ∧ w = w' := by
  have := long_any l a cap w
  rwa [decide_eq_false h] at this
theorem dec_some {b : List Nat} {B : Nat} {v : Value} {c : Int} {w : World} {l : List Pl} (hd : decR b = some l) (h : DecPost b B v c w) : c = 0 ∧ ∃ a cap, v = .slice a l.length cap ∧ l.length ≤ cap ∧ PlsIn w a l := by
  unfold DecPost at h
  rw [hd] at h
  obtain ⟨rfl, b', _, ho⟩ := h
  exact ⟨rfl, plSl_of_owns ho⟩
theorem dec_none {b : List Nat} {B : Nat} {v : Value} {c : Int} {w : World} (hd : decR b = none) (h : DecPost b B v c w) : v = .slice none 0 0 ∧ c = 2 := by
  unfold DecPost at h
  rw [hd] at h
  exact h
theorem encPost_full {L : List Pl} {B : Nat} {v : Value} {w : World} (hE : valE L = 0) (h : EncPost L B v w) : ∃ g2 c2, v = .slice (some ⟨g2, 0, none⟩) (encB L).length c2 ∧ (encB L).length ≤ c2 ∧ BytesIn w (some ⟨g2, 0, none⟩) (encB L) ∧ g2 < w.heap.size ∧ B ≤ g2 ∧ w.ownsRow B 5 1 v (encB L).length (encU (encB L)) := by
  unfold EncPost at h
  rw [if_pos hE] at h
  obtain ⟨b, hb, ho⟩ := h
  obtain ⟨a, c, rfl, hlc, hin⟩ := byteSl_of_owns ho
  have hpos : 0 < (encB L).length := by
    unfold encB
    rw [List.length_append]
    have := List.length_pos_iff.2 (grp_ne L.length)
    omega
  rcases ho.2 with ⟨_, h0⟩ | ⟨g, cap, cur, e, hbg, hg, _⟩
  · omega
  · simp only [Value.slice.injEq] at e
    obtain ⟨rfl, _, rfl⟩ := e
    exact ⟨g, c, rfl, hlc, hin, lt_of_block hg, by omega, owns_base ho hb⟩
theorem conv_nil (w : World) : (convert 25 9 (.slice none 0 0)).run Try.prog w = .ok (.string ByteArray.empty) w :=
  run_convert_bytes_nil w 25 5 Try.underlying25 Try.underlying5 0 0 9 Try.underlying9
theorem enc_nil {L : List Pl} {B : Nat} {v : Value} {w : World} (hE : valE L ≠ 0) (h : EncPost L B v w) : v = .slice none 0 0 := by
  unfold EncPost at h
  rw [if_neg hE] at h
  exact h
theorem dec0_any (w : World) : Calls Try.prog 17 #[.slice none 0 0] w fun e w' => (∃ v, e = .returned (.tuple #[v, .int .i64 2])) ∧ Below w.heap.size w w' := by
  refine (decode_any [] none 0 w (fun _ hk => absurd hk (Nat.not_lt_zero _)) (Nat.le_refl _) (by decide) (fun _ hx => by cases hx) (fun h => absurd rfl h)).mono ?_
  rintro e w1 ⟨⟨v, c, rfl, hp⟩, hb⟩
  have hn : decR [] = none := by decide +kernel
  obtain ⟨rfl, rfl⟩ := dec_none hn hp
  exact ⟨⟨_, rfl⟩, hb⟩
set_option maxRecDepth 100000 in
set_option maxHeartbeats 1000000 in
theorem traceEncodes_any (l : List Pl) (a : Option Addr) (cap : Nat) (w : World) (hin : PlsIn w a l) (hlc : l.length ≤ cap) :
    Calls Try.prog 3 #[.slice a l.length cap] w fun e w' => e = .returned (.bool true) ∧ Below w.heap.size w w' := by
  have HK := Lib.hid known_any
  by_cases h100 : 100 < l.length
  · clear hin
    go_enter Try.func3, Try.ntmps3
    go_wp2_with ((with_reducible refine (long_yes h100 a cap _).mono ?_); rintro e w1 ⟨rfl, rfl⟩)
    refine (HK.out _).mono ?_; rintro e w2 ⟨rfl, hb2⟩
    go_wp2_with fail
    go_ret
    exact ⟨rfl, hb2⟩
  have HLo := Lib.hid (long_no h100 a cap w)
  have HEn := Lib.hid (encode_any l a cap w hin hlc (by omega))
  have HI := Lib.hid hin
  have HRe := Lib.hid (fun (w' : World) (hb : Below w.heap.size w w') => rEncode_any l a cap w' (hin.below hb) (by omega))
  clear hin
  by_cases hE : valE l = 0
  · have ht := valE_zero.1 hE
    have HFull := Lib.hid (fun (B : Nat) (v : Value) (w : World) => @encPost_full l B v w hE)
    have hlen := encB_len ht
    have HDe := Lib.hid (decR_enc ht)
    have HBy := Lib.hid (encB_byte ht)
    rw [hE] at HEn HRe
    clear ht hE
    go_enter Try.func3, Try.ntmps3
    go_wp2_with fail
    refine HLo.out.mono ?_; rintro e w0 ⟨rfl, rfl⟩
    go_wp2_with fail
    refine HEn.out.mono ?_; rintro e w1 ⟨⟨v1, rfl, hp1⟩, hb1⟩
    obtain ⟨g1, c1, rfl, hlc1, hin1, hg1, _, _⟩ := HFull.out _ _ _ hp1
    have HI1 := Lib.hid hin1; have HB1 := Lib.hid hb1
    clear hp1 hin1 hb1
    go_wp2_with fail
    refine (HRe.out w1 HB1.out).mono ?_; rintro e w2 ⟨⟨v2, rfl, hp2⟩, hb2⟩
    obtain ⟨g2, c2, rfl, hlc2, hin2, hg2, _, _⟩ := HFull.out _ _ _ hp2
    have HB2 := Lib.hid (HB1.out.trans (hb2.mono HB1.out.size))
    have HI2 := Lib.hid (HI1.out.below hb2)
    have hg1' : g1 < w2.heap.size := Nat.lt_of_lt_of_le hg1 hb2.size
    have cv1 := conv_bytes (cap := c1) HI2.out
    have cv2 := conv_bytes (cap := c2) hin2
    have HDc := Lib.hid (decode_any (encB l) (some ⟨g1, 0, none⟩) c1 w2 HI2.out hlc1 (by omega) HBy.out (fun _ q off e => by simp only [Option.some.injEq, Addr.mk.injEq, and_true] at e; omega))
    generalize strN (encB l) = sb at *
    clear hp2 hin2 hb2 HRe HEn
    go_wp2_with fail
    refine HDc.out.mono ?_; rintro e w3 ⟨⟨v3, c3, rfl, hp3⟩, hb3⟩
    obtain ⟨rfl, a3, k3, rfl, hlc3, hin3⟩ := dec_some HDe.out hp3
    have HB3 := Lib.hid (HB2.out.trans (hb3.mono HB2.out.size))
    have HSm := same_any l l a3 a k3 cap w3 hin3 (HI.out.below HB3.out) (by omega)
    rw [decide_eq_true rfl] at HSm
    have HSm := Lib.hid HSm
    clear hp3 hin3 hb3
    go_wp2_with fail
    refine HSm.out.mono ?_; rintro e w4 ⟨rfl, hb4⟩
    have HB4 := Lib.hid (HB3.out.trans (hb4.mono HB3.out.size))
    clear hb4
    go_wp2_with fail
    refine (HK.out _).mono ?_; rintro e w5 ⟨rfl, hb5⟩
    go_wp2_with fail
    go_ret
    exact ⟨rfl, HB4.out.trans (hb5.mono HB4.out.size)⟩
  · have HNil := Lib.hid (fun (B : Nat) (v : Value) (w : World) => @enc_nil l B v w hE)
    have hne : (valE l != 0) = true := bne_iff_ne.2 hE
    have hnn : (valE l != valE l) = false := by simp
    generalize valE l = E at *
    clear hE
    go_enter Try.func3, Try.ntmps3
    go_wp2_with fail
    refine HLo.out.mono ?_; rintro e w0 ⟨rfl, rfl⟩
    go_wp2_with fail
    refine HEn.out.mono ?_; rintro e w1 ⟨⟨v1, rfl, hp1⟩, hb1⟩
    obtain rfl := HNil.out _ _ _ hp1
    have HB1 := Lib.hid hb1
    clear hp1 hb1
    go_wp2_with fail
    refine (HRe.out w1 HB1.out).mono ?_; rintro e w2 ⟨⟨v2, rfl, hp2⟩, hb2⟩
    obtain rfl := HNil.out _ _ _ hp2
    have HB2 := Lib.hid (HB1.out.trans (hb2.mono HB1.out.size))
    have cv := conv_nil w2
    clear hp2 hb2 HRe HEn
    go_wp2_with fail
    refine (dec0_any _).mono ?_; rintro e w3 ⟨⟨v3, rfl⟩, hb3⟩
    have HB3 := Lib.hid (HB2.out.trans (hb3.mono HB2.out.size))
    clear hb3
    go_wp2_with fail
    refine (HK.out _).mono ?_; rintro e w5 ⟨rfl, hb5⟩
    go_wp2_with fail
    go_ret
    exact ⟨rfl, HB3.out.trans (hb5.mono HB3.out.size)⟩
end Go.Proofs.Ytmhneonebjcieaa
