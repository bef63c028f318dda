/- The law TraceSpoils. -/
import Derived.Test.YtmhneonebjcieaaL2
namespace Go.Proofs.Ytmhneonebjcieaa
open Go.RowKit

theorem byte_row {w : World} {B g n c : Nat} {xs : List Nat} (h : w.ownsRow B 5 1 (.slice (some ⟨g, 0, none⟩) n c) n (encU xs)) {k : Nat} (hk : k < xs.length) (hx : n = xs.length) (y : Nat) :
    w.cell? ⟨g, k, none⟩ = some (.int .u8 (xs.getD k 0 : Nat)) ∧ w.frozen? ⟨g, k, none⟩ = false ∧ BytesIn (w.setCell ⟨g, k, none⟩ (.int .u8 (y : Nat))) (some ⟨g, 0, none⟩) (xs.set k y) := by
  subst hx
  rcases h.2 with ⟨e, _⟩ | ⟨g', cap, cur, e, hb, hg, hnc, hm, hcs, ht⟩
  · cases e
  · simp only [Value.slice.injEq, Option.some.injEq, Addr.mk.injEq, and_true, true_and] at e
    obtain ⟨rfl, rfl⟩ := e
    have hget : ∀ j, j < xs.length → cur[j]? = some (.int .u8 (xs.getD j 0 : Nat)) := fun j hj => by
      have : (encU xs)[j]? = some (.int .u8 (xs.getD j 0 : Nat)) := by
        simp [encU, List.getElem?_eq_getElem hj, List.getD_eq_getElem?_getD]
      rw [← ht, List.getElem?_take, if_pos (by omega)] at this
      simpa using this
    refine ⟨?_, frozen_of_row w g k _ _ hg, fun j hj => ⟨g, 0, rfl, ?_⟩⟩
    · rw [cell_of_row w g k _ _ _ hg]; exact hget k hk
    · have hj : j < xs.length := by simpa using hj
      rw [Nat.zero_add, cell_of_row _ g j _ _ _ (heap_setCell_same w g k _ _ _ hg)]
      have hsz : k < cur.size := by omega
      by_cases e : k = j
      · subst e
        simp [List.getD_eq_getElem?_getD, hk, hsz]
      · rw [Array.getElem?_setIfInBounds_ne e, hget j hj]
        simp [List.getD_eq_getElem?_getD, List.getElem?_set_ne e]
theorem set_byte {xs : List Nat} (h : ∀ x ∈ xs, x < 256) {k y : Nat} (hy : y < 256) : ∀ x ∈ xs.set k y, x < 256 := fun x hx => by
  rcases List.mem_or_eq_of_mem_set hx with h1 | h1
  · exact h x h1
  · omega
theorem set_other {xs : List Nat} {k y : Nat} (hk : k < xs.length) (h : xs.getD k 0 ≠ y) : xs.set k y ≠ xs := fun e => h (by
  have : (xs.set k y)[k]? = some y := by simp [hk]
  rw [e] at this
  rw [List.getD_eq_getElem?_getD, this]; rfl)
theorem spoil_at (at0 : Int) {n : Nat} (hn : 0 < n) (hl : n ≤ 1605) : ∃ k : Nat, k < n ∧ wrap64 ((IntKind.u64.wrap at0).tmod (n : Int)) = (k : Int) := by
  rw [IntKind.wrap_u64]
  have h0 : 0 ≤ at0 % 18446744073709551616 := Int.emod_nonneg _ (by decide)
  rw [Int.tmod_eq_emod_of_nonneg h0]
  have h1 : 0 ≤ at0 % 18446744073709551616 % (n : Int) := Int.emod_nonneg _ (by omega)
  have h2 : at0 % 18446744073709551616 % (n : Int) < (n : Int) := Int.emod_lt_of_pos _ (by omega)
  rw [wrap64_in h1 (by omega)]
  exact ⟨(at0 % 18446744073709551616 % (n : Int)).toNat, by omega, by omega⟩
set_option maxRecDepth 100000 in
set_option maxHeartbeats 2000000 in
theorem traceSpoils_any (l : List Pl) (a : Option Addr) (cap : Nat) (at0 : Int) (y : Nat) (w : World) (hin : PlsIn w a l) (hlc : l.length ≤ cap) (hy : y < 256) :
    Calls Try.prog 5 #[.slice a l.length cap, .int .i64 at0, .int .u8 (y : Nat)] w fun e w' => e = .returned (.bool true) ∧ Below w.heap.size w w' := by
  have HK := Lib.hid known_any
  by_cases h100 : 100 < l.length
  · clear hin
    go_enter Try.func5, Try.ntmps5
    go_wp2_with ((with_reducible refine (long_yes h100 a cap _).mono ?_); rintro e w1 ⟨rfl, rfl⟩)
    refine (HK.out _).mono ?_; rintro e w2 ⟨rfl, hb2⟩
    go_wp2_with fail
    go_ret
    exact ⟨rfl, hb2⟩
  have HLo := Lib.hid (long_no h100 a cap w)
  have HEn := Lib.hid (encode_any l a cap w hin hlc (by omega))
  have HI := Lib.hid hin
  clear hin
  by_cases hE : valE l = 0
  · have ht := valE_zero.1 hE
    have HFull := Lib.hid (fun (B : Nat) (v : Value) (w : World) => @encPost_full l B v w hE)
    have hlen := encB_len ht
    have HDe := Lib.hid (decR_enc ht)
    have HBy := Lib.hid (encB_byte ht)
    have HT := Lib.hid ht
    have hpos : 0 < (encB l).length := by
      unfold encB
      rw [List.length_append]
      have := List.length_pos_iff.2 (grp_ne l.length)
      omega
    have hz : (((encB l).length : Int) == 0) = false := by rw [beq_eq_false_iff_ne]; omega
    obtain ⟨k, hk, hkw⟩ := spoil_at at0 hpos hlen
    have HInj : Hid (∀ m, decR ((encB l).set k y) = some m → (encB l).getD k 0 ≠ y → m ≠ l) := Lib.hid fun m hm hx e => by
      obtain ⟨_, h2⟩ := decR_back (set_byte (encB_byte ht) hy) hm
      rw [e] at h2
      exact set_other hk hx h2.symm
    rw [hE] at HEn
    clear ht hE
    generalize encB l = xs at *
    go_enter Try.func5, Try.ntmps5
    go_wp2_with fail
    refine HLo.out.mono ?_; rintro e w0 ⟨rfl, rfl⟩
    go_wp2_with fail
    refine HEn.out.mono ?_; rintro e w1 ⟨⟨v1, rfl, hp1⟩, hb1⟩
    obtain ⟨g1, c1, rfl, hlc1, hin1, hg1, hbg, ho1⟩ := HFull.out _ _ _ hp1
    clear hp1
    have HB1 := Lib.hid hb1; have HO1 := Lib.hid ho1; have HIn1 := Lib.hid hin1
    clear hb1 ho1 hin1
    have hkz : (0 : Int) ≤ (k : Int) := by omega
    have hki : (k : Int) < (xs.length : Int) := by omega
    obtain ⟨cx, fx, hset⟩ := byte_row HO1.out hk rfl y
    have HSet := Lib.hid hset
    have hlen2 : (xs.set k y).length = xs.length := by simp
    have HLen2 := Lib.hid hlen2
    clear hset hlen2
    by_cases hxy : xs.getD k 0 = y
    · have hb1 : (((xs.getD k 0 : Nat) : Int) == (y : Int)) = true := by rw [hxy]; simp
      have hb2 : (xs.getD k 0 == y) = true := by rw [hxy]; simp
      generalize xs.getD k 0 = x at *
      subst hxy
      go_wp2_with fail
      refine (HK.out _).mono ?_; rintro e w2 ⟨rfl, hb2⟩
      go_wp2_with fail
      go_ret
      exact ⟨rfl, HB1.out.trans (hb2.mono HB1.out.size)⟩
    · have HInj := Lib.hid (fun m h => HInj.out m h hxy)
      have hb1 : (((xs.getD k 0 : Nat) : Int) == (y : Int)) = false := by rw [beq_eq_false_iff_ne]; omega
      have hb2 : (xs.getD k 0 == y) = false := beq_eq_false_iff_ne.2 hxy
      have HDe2 := Lib.hid (decode_any (xs.set k y) (some ⟨g1, 0, none⟩) c1 _ HSet.out (by rw [HLen2.out]; exact hlc1) (by rw [HLen2.out]; omega) (set_byte HBy.out hy) (fun _ q off e => by simp only [Option.some.injEq, Addr.mk.injEq, and_true] at e; simp [World.setCell]; omega))
      have HRd2 := Lib.hid (fun (w' : World) (hb : Below (w1.setCell ⟨g1, k, none⟩ (.int .u8 (y : Nat))).heap.size (w1.setCell ⟨g1, k, none⟩ (.int .u8 (y : Nat))) w') => rDecode_any (xs.set k y) (some ⟨g1, 0, none⟩) c1 w' (HSet.out.below hb) (by rw [HLen2.out]; omega) (set_byte HBy.out hy))
      rw [HLen2.out] at HDe2 HRd2
      have HBs := Lib.hid (HB1.out.trans (below_setCell w1 (k := k) hbg (.int .u8 (y : Nat))))
      have hws : w1.heap.size = (w1.setCell ⟨g1, k, none⟩ (.int .u8 (y : Nat))).heap.size := by simp [World.setCell]
      have HWs := Lib.hid hws
      clear hws
      cases hR : decR (xs.set k y) with
      | none =>
        have HR := Lib.hid hR
        generalize xs.getD k 0 = x at *
        clear hxy hR
        go_wp2_with fail
        refine HDe2.out.mono ?_; rintro e w2 ⟨⟨v2, c2, rfl, hp2⟩, hb2⟩
        obtain ⟨rfl, rfl⟩ := dec_none HR.out hp2
        have HB2 := Lib.hid hb2
        have HBt2 := Lib.hid (HBs.out.trans (hb2.mono (by rw [← HWs.out]; exact HB1.out.size)))
        clear hp2 hb2
        go_wp2_with fail
        refine (HRd2.out _ HB2.out).mono ?_; rintro e w3 ⟨⟨v3, c3, rfl, hp3⟩, hb3⟩
        obtain ⟨rfl, rfl⟩ := dec_none HR.out hp3
        have HBt3 := Lib.hid (HBt2.out.trans (hb3.mono HBt2.out.size))
        clear hp3 hb3
        go_wp2_with fail
        refine (same_nil _).mono ?_; rintro e w4 ⟨rfl, hb4⟩
        have HBt4 := Lib.hid (HBt3.out.trans (hb4.mono HBt3.out.size))
        clear hb4
        go_wp2_with fail
        refine (HK.out _).mono ?_; rintro e w5 ⟨rfl, hb5⟩
        go_wp2_with fail
        go_ret
        exact ⟨rfl, HBt4.out.trans (hb5.mono HBt4.out.size)⟩
      | some m =>
        have HR := Lib.hid hR
        have hml : l ≠ m := fun e => HInj.out m hR e.symm
        have hm64 : m.length ≤ 64 := (decR_back (set_byte HBy.out hy) hR).1.len
        have HMl := Lib.hid hml
        generalize xs.getD k 0 = x at *
        clear hxy hR hml
        go_wp2_with fail
        refine HDe2.out.mono ?_; rintro e w2 ⟨⟨v2, c2, rfl, hp2⟩, hb2⟩
        obtain ⟨rfl, a2, k2, rfl, hlc2, hin2⟩ := dec_some HR.out hp2
        have HB2 := Lib.hid hb2; have HI2 := Lib.hid hin2
        have HBt2 := Lib.hid (HBs.out.trans (hb2.mono (by rw [← HWs.out]; exact HB1.out.size)))
        clear hp2 hb2 hin2
        go_wp2_with fail
        refine (HRd2.out _ HB2.out).mono ?_; rintro e w3 ⟨⟨v3, c3, rfl, hp3⟩, hb3⟩
        obtain ⟨rfl, a3, k3, rfl, hlc3, hin3⟩ := dec_some HR.out hp3
        have HBt3 := Lib.hid (HBt2.out.trans (hb3.mono HBt2.out.size))
        have HI3 := Lib.hid (HI2.out.below hb3)
        have HSm := Lib.hid (same_self m (cap := k2) (cap' := k3) HI3.out hin3 (by omega))
        clear hp3 hb3 hin3
        go_wp2_with fail
        refine HSm.out.mono ?_; rintro e w4 ⟨rfl, hb4⟩
        have HBt4 := Lib.hid (HBt3.out.trans (hb4.mono HBt3.out.size))
        have hsl := same_any l m a a2 cap k2 w4 (HI.out.below HBt4.out) (HI3.out.below hb4) (by omega)
        rw [decide_eq_false HMl.out] at hsl
        have HSl := Lib.hid hsl
        clear hb4 hsl
        go_wp2_with fail
        refine HSl.out.mono ?_; rintro e w5 ⟨rfl, hb5⟩
        have HBt5 := Lib.hid (HBt4.out.trans (hb5.mono HBt4.out.size))
        clear hb5
        go_wp2_with fail
        refine (HK.out _).mono ?_; rintro e w6 ⟨rfl, hb6⟩
        go_wp2_with fail
        go_ret
        exact ⟨rfl, HBt5.out.trans (hb6.mono HBt5.out.size)⟩
  · have hne : (valE l != 0) = true := bne_iff_ne.2 hE
    generalize valE l = E at *
    clear hE
    go_enter Try.func5, Try.ntmps5
    go_wp2_with fail
    refine HLo.out.mono ?_; rintro e w0 ⟨rfl, rfl⟩
    go_wp2_with fail
    refine HEn.out.mono ?_; rintro e w1 ⟨⟨v1, rfl, _⟩, hb1⟩
    have HB1 := Lib.hid hb1
    clear hb1
    go_wp2_with fail
    refine (HK.out _).mono ?_; rintro e w6 ⟨rfl, hb6⟩
    go_wp2_with fail
    go_ret
    exact ⟨rfl, HB1.out.trans (hb6.mono HB1.out.size)⟩
end Go.Proofs.Ytmhneonebjcieaa
