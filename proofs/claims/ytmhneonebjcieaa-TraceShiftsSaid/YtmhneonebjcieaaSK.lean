/- The walk of Shift of the document. -/
import Derived.Test.YtmhneonebjcieaaSJ
namespace Go.Proofs.Ytmhneonebjcieaa
open Go.RowKit

def shL (l : List Pl) (d : Int) (k : Nat) : List Pl := (l.take k).map (shiftP d)
theorem shL_len {l : List Pl} {d : Int} {k : Nat} (h : k ≤ l.length) : (shL l d k).length = k := by simp [shL]; omega
theorem shL_next {l : List Pl} {d : Int} {k : Nat} (h : k < l.length) : shL l d (k + 1) = shL l d k ++ [shiftP d (at' l k)] := by unfold shL; rw [take_next h, List.map_append]; rfl
theorem shL_full (l : List Pl) (d : Int) : shL l d l.length = l.map (shiftP d) := by simp [shL]
set_option maxRecDepth 100000 in
set_option maxHeartbeats 4000000 in
theorem rShift_any (l : List Pl) (a : Option Addr) (cap : Nat) (d : Int) (w : World) (hin : PlsIn w a l) (hl : l.length ≤ 1000) :
    Calls Try.prog 21 #[.slice a l.length cap, .int .i64 d] w fun e w' => (∃ v, e = .returned (.tuple #[v, .int .i64 (shiftE l d)]) ∧ ShPost l d w.heap.size v w') ∧ Below w.heap.size w w' := by
  have HV := Lib.hid (rValid_any l a cap w hin hl)
  have HI := Lib.hid hin
  clear hin
  by_cases hE : valE l = 0
  rotate_left
  · have hA : shiftE l d = valE l := by unfold shiftE; rw [if_pos hE]
    have HD : Hid (∀ w', ShPost l d w.heap.size (.slice none 0 0) w') := Lib.hid fun w' => by unfold ShPost; rw [if_neg (by rw [hA]; exact hE)]
    rw [hA]
    have hne : (valE l != 0) = true := bne_iff_ne.2 hE
    generalize valE l = E at *
    clear hE hA
    go_enter Try.func21, Try.ntmps21
    go_wp2_with fail
    refine HV.out.mono ?_; rintro e w1 ⟨rfl, hb1⟩
    go_wp2_with fail
    go_ret2
    exact ⟨⟨_, rfl, HD.out _⟩, hb1⟩
  have HT := Lib.hid (valE_zero.1 hE)
  have HBad : Hid (∀ k, k < l.length → fitsB d (at' l k) = false → shiftE l d = 1 ∧ ∀ w', ShPost l d w.heap.size (.slice none 0 0) w') := Lib.hid fun k hk h => ⟨shiftE_bad hE hk h, fun w' => by unfold ShPost; rw [if_neg (by rw [shiftE_bad hE hk h]; decide)]⟩
  have HGood : Hid ((∀ k, k < l.length → fitsB d (at' l k) = true) → shiftE l d = 0 ∧ ∀ v w', w'.ownsRow w.heap.size 38 5 v l.length (encPl (l.map (shiftP d))) → ShPost l d w.heap.size v w') := Lib.hid fun h => ⟨shiftE_good hE h, fun v w' ho => by unfold ShPost; rw [if_pos (shiftE_good hE h)]; exact ho⟩
  rw [hE] at HV
  clear hE
  generalize shiftE l d = E at *
  obtain ⟨i0, hi, ip0, ip1, ip2⟩ := info_parts Try.infoPlace
  go_enter Try.func21, Try.ntmps21
  go_wp2_with fail
  refine HV.out.mono ?_; rintro e w1 ⟨rfl, hb1⟩
  have HB1 := Lib.hid hb1
  clear hb1
  go_wp2_with fail
  go_loopw [7, 8] (fun u i wr => ∃ k : Nat, k ≤ l.length ∧ i = .int .i64 k ∧ (∀ j, j < k → fitsB d (at' l j) = true) ∧ wr.ownsRow w.heap.size 38 5 u k (encPl (shL l d k)) ∧ Below w.heap.size w wr) (fun _ i _ => l.length - (intOf i).toNat)
  case atStart => exact ⟨0, Nat.zero_le _, rfl, fun j hj => absurd hj (Nat.not_lt_zero _), ⟨rfl, .inl ⟨rfl, rfl⟩⟩, HB1.out⟩
  case round =>
    obtain ⟨k, hk, rfl, hfit, ho, hb⟩ := hrel
    have HFit := Lib.hid hfit; clear hfit
    obtain ⟨va, vc, rfl⟩ := owns_shape ho
    by_cases hlt : k < l.length
    · have hki : (k : Int) < (l.length : Int) := by omega
      have hk0 : (0 : Int) ≤ (k : Int) := by omega
      obtain ⟨b, off, rfl, hpl⟩ := HI.out.below hb k hlt
      have hnx := shL_next (d := d) hlt
      obtain ⟨f0, ft, t1, v0, v1, k0, k1, n0, n1⟩ := HT.out.good k hlt
      have HNx : Hid (fitsB d (at' l k) = true → ∀ j, j < k + 1 → fitsB d (at' l j) = true) := Lib.hid fun h j hj => by
        by_cases e : j = k
        · rw [e]; exact h
        · exact HFit.out j (by omega)
      have HBk := Lib.hid (HBad.out k hlt)
      have HW := Lib.hid (fun b (h : fitsB d (at' l k) = b) => rwithin_is (n := d) (lo := -(at' l k).fr) (hi := 32768 - (at' l k).to) (b := b) h)
      have HFi := Lib.hid (@fits_iff d (at' l k))
      have HO := Lib.hid ho; have HB := Lib.hid hb; have HSn := Lib.hid hnx
      obtain ⟨c0, c1, c2, c3, c4⟩ := hpl
      clear ho hb hnx
      generalize at' l k = x at *
      obtain ⟨x0, x1, x2, x3, x4⟩ := x
      simp only at c0 c1 c2 c3 c4 f0 ft t1 v0 v1 k0 k1 n0 n1
      clear v0 v1 k0 k1 n0 n1
      cases hfx : fitsB d ⟨x0, x1, x2, x3, x4⟩
      · obtain ⟨hE1, hD⟩ := HBk.out hfx
        have HD := Lib.hid hD; have HE1 := Lib.hid hE1
        have HWx := Lib.hid (HW.out _ hfx)
        clear hD hE1 hfx
        go_wp2_with fail
        refine (HWx.out _).mono ?_; rintro e w3 ⟨rfl, rfl⟩
        go_wp2_with fail
        go_ret2
        exact ⟨⟨_, ret_two HE1.out.symm, HD.out _⟩, HB.out.alloc HB.out.size _⟩
      · have hfi := HFi.out.1 hfx
        simp only at hfi
        obtain ⟨hi1, hi2⟩ := hfi
        have HN := Lib.hid (HNx.out hfx)
        have HWx := Lib.hid (HW.out _ hfx)
        have hi3 : 0 ≤ x0 + d := by omega
        have hi4 : x0 + d ≤ 32768 := by omega
        have hi5 : 0 ≤ x1 + d := by omega
        have hi6 : x1 + d ≤ 32768 := by omega
        have HS63 : Hid (k + 1 ≤ maxLen) := Lib.hid (by unfold maxLen; omega)
        have HSb : Hid ((k + 1) * 40 ≤ 140737488355328) := Lib.hid (by omega)
        have HB2 := Lib.hid ((HB.out.alloc HB.out.size (.cells #[.int .i64 (x0 + d), .int .i64 (x1 + d), .int .i64 x2, .int .i64 x3, .int .i64 x4] 38)).alloc (Nat.le_trans HB.out.size (by simp)) (.cells #[.int .i64 (x0 + d), .int .i64 (x1 + d), .int .i64 x2, .int .i64 x3, .int .i64 x4] 38))
        have HO2 := Lib.hid ((HO.out.alloc (.cells #[.int .i64 (x0 + d), .int .i64 (x1 + d), .int .i64 x2, .int .i64 x3, .int .i64 x4] 38)).alloc (.cells #[.int .i64 (x0 + d), .int .i64 (x1 + d), .int .i64 x2, .int .i64 x3, .int .i64 x4] 38))
        have HZ2 : Hid (w.heap.size ≤ ((wr.alloc (.cells #[.int .i64 (x0 + d), .int .i64 (x1 + d), .int .i64 x2, .int .i64 x3, .int .i64 x4] 38)).alloc (.cells #[.int .i64 (x0 + d), .int .i64 (x1 + d), .int .i64 x2, .int .i64 x3, .int .i64 x4] 38)).heap.size) := Lib.hid HB2.out.size
        have HNew : Hid (∀ j u, ([.int .i64 (x0 + d), .int .i64 (x1 + d), .int .i64 x2, .int .i64 x3, .int .i64 x4] : List Value)[j]? = some u → ((wr.alloc (.cells #[.int .i64 (x0 + d), .int .i64 (x1 + d), .int .i64 x2, .int .i64 x3, .int .i64 x4] 38)).alloc (.cells #[.int .i64 (x0 + d), .int .i64 (x1 + d), .int .i64 x2, .int .i64 x3, .int .i64 x4] 38)).cell? ((⟨wr.heap.size + 1, 0, none⟩ : Addr).add j) = some u) := Lib.hid (by have := cell_five_new (wr.alloc (.cells #[.int .i64 (x0 + d), .int .i64 (x1 + d), .int .i64 x2, .int .i64 x3, .int .i64 x4] 38)) (.int .i64 (x0 + d)) (.int .i64 (x1 + d)) (.int .i64 x2) (.int .i64 x3) (.int .i64 x4) 38; simpa using this)
        clear hfx
        go_wp2_with fail
        refine (HWx.out _).mono ?_; rintro e w3 ⟨rfl, rfl⟩
        go_wp2_with (at_builtin; refine wpList_append_own_at _ rfl _ _ 22 rfl w.heap.size 38 i0 (.agg #[.int .i64 0, .int .i64 0, .int .i64 0, .int .i64 0, .int .i64 0]) 5 40 Try.underlying22 hi ip0 ip1 ip2 rfl (by decide) _ _ _ rfl HO2.out ⟨wr.heap.size + 1, 0, none⟩ 1 1 [.int .i64 (x0 + d), .int .i64 (x1 + d), .int .i64 x2, .int .i64 x3, .int .i64 x4] rfl rfl HNew.out (one_cells5 _ _ _ _ _) HS63.out HSb.out HZ2.out ?_; intro v9 w9 hown9 hgrow9 _ hat9; have HB9 := Lib.hid (HB2.out.grown hgrow9 HZ2.out (fun g hg => (owns_block HO2.out hg).1)); have HO9 := Lib.hid hown9; clear hown9 hgrow9 hat9)
        go_roundw
        case rel => exact ⟨k + 1, by omega, by go_num, HN.out, by rw [HSn.out, encPl_snoc]; exact HO9.out, HB9.out⟩
        case measure => simp [intOf]; omega
    · obtain rfl : k = l.length := by omega
      obtain ⟨hE0, hP⟩ := HGood.out HFit.out
      rw [shL_full] at ho
      have HP := Lib.hid (hP _ _ ho); have HB := Lib.hid hb; have HE0 := Lib.hid hE0
      clear ho hb hP hE0
      go_wp2_with fail
      go_ret2
      exact ⟨⟨_, ret_two HE0.out.symm, HP.out⟩, HB.out⟩
end Go.Proofs.Ytmhneonebjcieaa
