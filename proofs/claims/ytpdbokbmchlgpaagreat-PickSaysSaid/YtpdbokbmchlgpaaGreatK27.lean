/- Packed of several texts. -/
import Derived.Test.YtpdbokbmchlgpaaGreatK18
import Derived.Test.YtpdbokbmchlgpaaGreatK13
namespace Go.Proofs.YtpdbokbmchlgpaaGreat.PK
open Go.RowKit

/-- What the closures of typed see: the instruction's Args, and the kinds. -/
structure TyC (w : World) (p4 p5 : Nat) (ar K : List Int) : Prop where
  ca : ∃ aa cap, w.cell? ⟨p4, 3, none⟩ = some (.slice aa ar.length cap) ∧ IntsIn w aa ar
  ck : ∃ ka cap, w.cell? ⟨p5, 0, none⟩ = some (.slice ka K.length cap) ∧ IntsIn w ka K
theorem TyC.below {w w' : World} {p4 p5 : Nat} {ar K : List Int} (h : TyC w p4 p5 ar K) (hb : Below w.heap.size w w') : TyC w' p4 p5 ar K := by
  obtain ⟨⟨aa, c, h1, h2⟩, ⟨ka, c2, h3, h4⟩⟩ := h
  exact ⟨⟨aa, c, keep h1 hb, h2.below hb⟩, ⟨ka, c2, keep h3 hb, h4.below hb⟩⟩
theorem ofI_lo {K : List Int} {v : Int} (h : v < 0) : ofI K v = -1 := if_neg (by omega)
theorem ofI_hi {K : List Int} {v : Int} (h : (K.length : Int) ≤ v) : ofI K v = -1 := if_neg (by omega)
theorem ofI_in {K : List Int} {v : Int} (h0 : 0 ≤ v) (h : v < (K.length : Int)) : ofI K v = K.getD v.toNat 0 := if_pos ⟨h0, h⟩
set_option maxHeartbeats 1000000 in
theorem typed1_any (ar K : List Int) (p4 p5 i : Nat) (w : World) (hc : TyC w p4 p5 ar K) (hi : i < ar.length) :
    Calls Tryz.prog 129 #[.int .i64 i, .pointer (some ⟨p4, 0, none⟩), .pointer (some ⟨p5, 0, none⟩)] w fun e w' => e = .returned (.int .i64 (ofI K (ar.getD i 0))) ∧ w = w' := by
  obtain ⟨⟨aa, c, h1, h2⟩, ⟨ka, c2, h3, h4⟩⟩ := hc
  obtain ⟨b, off, rfl, h5⟩ := h2 i hi
  have hii : (i : Int) < (ar.length : Int) := by omega
  have HLo := Lib.hid (fun h => ofI_lo (K := K) (v := ar.getD i 0) h)
  have HHi := Lib.hid (fun h => ofI_hi (K := K) (v := ar.getD i 0) h)
  have HIn := Lib.hid (fun h0 h => ofI_in (K := K) (v := ar.getD i 0) h0 h)
  have H4 := Lib.hid h4
  clear h2 h4
  generalize ofI K (ar.getD i 0) = R at *
  generalize ar.getD i 0 = y at *
  generalize ar.length = n at *
  go_enter Tryz.func129, Tryz.ntmps129
  by_cases y0 : y < 0
  · obtain rfl := HLo.out y0
    go_wp2_with fail
    go_ret
    exact ⟨rfl, rfl⟩
  by_cases y1 : (K.length : Int) ≤ y
  · obtain rfl := HHi.out y1
    go_wp2_with fail
    go_ret
    exact ⟨rfl, rfl⟩
  obtain rfl := HIn.out (by omega) (by omega)
  obtain ⟨j, rfl⟩ : ∃ j : Nat, y = (j : Int) := ⟨y.toNat, by omega⟩
  obtain ⟨b2, off2, rfl, h6⟩ := H4.out j (by omega)
  have y2 : (j : Int) < (K.length : Int) := by omega
  simp only [Int.toNat_natCast]
  generalize K.getD j 0 = z at *
  generalize K.length = m at *
  go_wp2_with fail
  go_ret
  exact ⟨rfl, rfl⟩
set_option maxHeartbeats 1000000 in
theorem typed2_any (ar K : List Int) (p4 p5 p7 : Nat) (k : Int) (w : World) (hc : TyC w p4 p5 ar K) (hf : w.cell? ⟨p7, 0, none⟩ = some (.func (.func 129) #[] #[.pointer (some ⟨p4, 0, none⟩), .pointer (some ⟨p5, 0, none⟩)])) (hl : ar.length ≤ 1000000) :
    Calls Tryz.prog 130 #[.int .i64 k, .pointer (some ⟨p4, 0, none⟩), .pointer (some ⟨p7, 0, none⟩)] w fun e w' => e = .returned (.bool ((ar.map (ofI K)).all fun z => decide (z = k))) ∧ w = w' := by
  have HO := Lib.hid (fun i hi => typed1_any ar K p4 p5 i w hc hi)
  obtain ⟨⟨aa, c, h1, h2⟩, _⟩ := hc
  have HN := Lib.hid (fun i (hi : i < ar.length) (h : ofI K (ar.getD i 0) ≠ k) => all_not (p := fun z => decide (z = k)) (l := ar.map (ofI K)) (k := i) (by simpa using hi) (decide_eq_false (by
    rw [show (ar.map (ofI K)).getD i 0 = ofI K (ar.getD i 0) by rw [List.getD_eq_getElem?_getD, List.getD_eq_getElem?_getD, List.getElem?_map, List.getElem?_eq_getElem hi]; rfl]; exact h)))
  have HY := Lib.hid (fun (h : ∀ i, i < ar.length → ofI K (ar.getD i 0) = k) => all_getD (p := fun z => decide (z = k)) (l := ar.map (ofI K)) (fun i hi => decide_eq_true (by
    rw [List.length_map] at hi
    rw [show (ar.map (ofI K)).getD i 0 = ofI K (ar.getD i 0) by rw [List.getD_eq_getElem?_getD, List.getD_eq_getElem?_getD, List.getElem?_map, List.getElem?_eq_getElem hi]; rfl]; exact h i hi)))
  clear h2
  generalize ((ar.map (ofI K)).all fun z => decide (z = k)) = R at *
  generalize hn : ar.length = n at *
  have HNn := Lib.hid hn; clear hn
  go_enter Tryz.func130, Tryz.ntmps130
  go_wp2_with fail
  go_loopw [9] (fun i wr => ∃ j : Nat, j ≤ n ∧ i = .int .i64 j ∧ Hid (∀ m, m < j → ofI K (ar.getD m 0) = k) ∧ w = wr) (fun i _ => n - (intOf i).toNat)
  case atStart => exact ⟨0, Nat.zero_le _, rfl, Lib.hid fun j hj => absurd hj (Nat.not_lt_zero _), rfl⟩
  case round =>
    obtain ⟨j, hj, rfl, HJ, rfl⟩ := hrel
    by_cases hlt : j < n
    rotate_left
    · obtain rfl : j = n := by omega
      obtain rfl := HY.out HJ.out
      go_wp2_with fail
      go_ret
      exact ⟨rfl, rfl⟩
    have hji : (j : Int) < (n : Int) := by omega
    have HOj := Lib.hid (HO.out j hlt)
    have HNj := Lib.hid (HN.out j hlt)
    have HJx : Hid (ofI K (ar.getD j 0) = k → ∀ m, m < j + 1 → ofI K (ar.getD m 0) = k) := Lib.hid fun h m hm => by
      by_cases e : m = j
      · subst e; exact h
      · exact HJ.out m (by omega)
    generalize ofI K (ar.getD j 0) = z at *
    go_wp2_with fail
    refine HOj.out.mono ?_; rintro e w2 ⟨rfl, rfl⟩
    by_cases hz : z = k
    · have q : (z != k) = false := by simp [hz]
      have HJy := Lib.hid (HJx.out hz)
      clear hz
      go_wp2_with fail
      go_roundw
      case rel => exact ⟨j + 1, by omega, by go_num, HJy, by trivial⟩
      case measure => simp [intOf]; omega
    · have q : (z != k) = true := bne_iff_ne.2 hz
      obtain rfl := HNj.out hz
      clear hz
      go_wp2_with fail
      go_ret
      exact ⟨rfl, rfl⟩
end Go.Proofs.YtpdbokbmchlgpaaGreat.PK
