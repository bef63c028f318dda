/- The law SeatRows. -/
import Derived.Test.YtgpacajlfclobaaL1
import Derived.Test.YtgpacajlfclobaaJ
import Derived.Test.YtgpacajlfclobaaP5
namespace Go.Proofs.Ytgpacajlfclobaa
open Go.RowKit

theorem rowed_ns {l : List (Int × Int)} {sp : Int} (h : rowedE l sp = 0) : ∀ t x, fromF (toN l) t = some x → t ≠ sp.toNat ∧ x ≠ sp.toNat := fun t x ht => by
  obtain ⟨hv, hs, hm⟩ := rowed_parts h
  obtain ⟨h1, h2⟩ := valid_moves hv
  obtain ⟨h3, _⟩ := (fromF_iff h1).1 ht
  obtain ⟨m, hmm, e⟩ := List.mem_map.1 h3
  simp only [Prod.mk.injEq] at e
  have := hm m hmm
  have := h2 m hmm
  omega
def castP (ps : List (Nat × Nat)) : List (Int × Int) := ps.map fun p => ((p.1 : Int), (p.2 : Int))
theorem castP_len (ps : List (Nat × Nat)) : (castP ps).length = ps.length := by simp [castP]
theorem toN_castP (ps : List (Nat × Nat)) : toN (castP ps) = ps := by simp [toN, castP, Function.comp_def]
theorem castP_at (ps : List (Nat × Nat)) (k : Nat) : (castP ps).getD k (0, 0) = (((ps.getD k (0, 0)).1 : Int), ((ps.getD k (0, 0)).2 : Int)) := by
  simp only [castP, List.getD_eq_getElem?_getD, List.getElem?_map]
  cases ps[k]? <;> rfl
theorem PairsIn.moves {w : World} {a : Option Addr} {ps : List (Nat × Nat)} (h : PairsIn w a ps) : MovesIn w a (castP ps) := fun k hk => by
  rw [castP_len] at hk
  rw [castP_at]
  exact h k hk
theorem castP_ok {ps : List (Nat × Nat)} (h : ∀ m ∈ ps, m.1 < 31 ∧ m.2 < 31) : (castP ps).any badB = false := by
  rw [List.any_eq_false]
  intro m hm
  obtain ⟨p, hp, rfl⟩ := List.mem_map.1 hm
  have := h p hp
  unfold badB regB
  rw [Bool.not_eq_true, Bool.or_eq_false_iff, Bool.not_eq_false', Bool.not_eq_false', Bool.and_eq_true, Bool.and_eq_true, decide_eq_true_iff, decide_eq_true_iff, decide_eq_true_iff, decide_eq_true_iff]
  omega
theorem row_is {l : List (Int × Int)} {sp : Int} (h : rowedE l sp = 0) : isRowB (toN l) (castP (rowR l sp)) sp.toNat = true ∧ (rowR l sp).length = fewR l ∧ (rowR l sp).length ≤ 100 := by
  obtain ⟨hv, hs, _⟩ := rowed_parts h
  have hl := (valid_moves hv).1
  have hr : rowR l sp = rowL (toN l) sp.toNat := if_pos h
  rw [hr]
  obtain ⟨h1, h2⟩ := row_right hl (sp := sp.toNat) (by omega) (rowed_ns h)
  obtain ⟨h3, h4⟩ := row_len31 hl sp.toNat
  refine ⟨isRow_yes (castP_ok h1) fun r _ hrs => ?_, ?_, by omega⟩
  · rw [toN_castP, h2 r hrs, afterR_want hl]
  · rw [h3]; exact (if_pos hv).symm

set_option maxRecDepth 100000 in
set_option maxHeartbeats 1000000 in
theorem seatRows_any (l : List (Int × Int)) (a : Option Addr) (cap : Nat) (sp : Int) (w : World) (hin : MovesIn w a l) (hcap : l.length ≤ cap) :
    Calls Try.prog 4 #[.slice a l.length cap, .int .i64 sp] w fun e w' => e = .returned (.bool true) ∧ Below w.heap.size w w' := by
  have HK := Lib.hid known_any
  by_cases h100 : 100 < l.length
  · have hi : (100 : Int) < (l.length : Int) := by omega
    clear hin
    go_enter Try.func4, Try.ntmps4
    go_wp2_with fail
    refine (HK.out _).mono ?_; rintro e w2 ⟨rfl, hb2⟩
    go_wp2_with fail
    go_ret
    exact ⟨rfl, hb2⟩
  · have hi : ¬ (100 : Int) < (l.length : Int) := by omega
    have HR := Lib.hid (Row_any l a cap sp w hin hcap)
    have HR2 : Hid (∀ w', Below w.heap.size w w' → Calls Try.prog 14 #[.slice a l.length cap, .int .i64 sp] w' fun e w'' => e = .returned (.int .i64 (rowedE l sp)) ∧ Below w'.heap.size w' w'') := Lib.hid fun w' hb => rowed_any l a cap sp w' (hin.below hb)
    by_cases hE0 : rowedE l sp = 0
    · obtain ⟨hv, hs, _⟩ := rowed_parts hE0
      obtain ⟨hrow, hlen, hlen100⟩ := row_is hE0
      have HF : Hid (∀ w', Below w.heap.size w w' → Calls Try.prog 10 #[.slice a l.length cap] w' fun e w'' => e = .returned (.tuple #[.int .i64 ((rowR l sp).length : Nat), .int .i64 0]) ∧ Below w'.heap.size w' w'') := Lib.hid fun w' hb => by
        have := rFewest_any l a cap w' (hin.below hb)
        rw [hv] at this
        rw [hlen]; exact this
      have HIs : Hid (∀ w' oa ocap, Below w.heap.size w w' → PairsIn w' oa (rowR l sp) → Calls Try.prog 15 #[.slice a l.length cap, .slice oa (rowR l sp).length ocap, .int .i64 sp] w' fun e w'' => e = .returned (.bool true) ∧ Below w'.heap.size w' w'') := Lib.hid fun w' oa ocap hb hp => by
        have := isRow_any (toN l) a cap (castP (rowR l sp)) oa ocap sp.toNat w' ((hin.below hb).pairs hv) (valid_moves hv).1 hp.moves (by rw [castP_len]; exact hlen100)
        rw [toN_len, castP_len, hrow, Int.toNat_of_nonneg hs.1] at this
        exact this
      rw [hE0] at HR HR2
      clear hin hv hrow hlen hs hE0
      generalize rowR l sp = R at *
      have hNN : ((R.length : Int) == (R.length : Int)) = true := by simp
      go_enter Try.func4, Try.ntmps4
      go_wp2_with fail
      refine HR.out.mono ?_; rintro e w1 ⟨v, rfl, ⟨va, vc, rfl, hp⟩, hb1⟩
      have HP : Hid (PairsIn w1 va R) := Lib.hid hp
      have HBa := Lib.hid hb1; clear hb1 hp
      go_wp2_with fail
      refine (HR2.out _ HBa.out).mono ?_; rintro e w2 ⟨rfl, hb2⟩
      have HBb := Lib.hid (HBa.out.trans (hb2.mono HBa.out.size))
      have HP2 := Lib.hid (HP.out.below hb2); clear hb2
      go_wp2_with fail
      refine (HF.out _ HBb.out).mono ?_; rintro e w3 ⟨rfl, hb3⟩
      have HBc := Lib.hid (HBb.out.trans (hb3.mono HBb.out.size))
      have HP3 := Lib.hid (HP2.out.below hb3); clear hb3
      go_wp2_with fail
      refine (HIs.out _ _ _ HBc.out HP3.out).mono ?_; rintro e w4 ⟨rfl, hb4⟩
      have HBd := Lib.hid (HBc.out.trans (hb4.mono HBc.out.size)); clear hb4
      go_wp2_with fail
      refine (HK.out _).mono ?_; rintro e w5 ⟨rfl, hb5⟩
      go_wp2_with fail
      go_ret
      exact ⟨rfl, HBd.out.trans (hb5.mono HBd.out.size)⟩
    · have hR : rowR l sp = [] := if_neg hE0
      rw [hR] at HR
      have hEb : (rowedE l sp == 0) = false := by rw [beq_eq_false_iff_ne]; exact hE0
      clear hin hR
      generalize rowedE l sp = E at *
      have hEE : (E == E) = true := by simp
      go_enter Try.func4, Try.ntmps4
      go_wp2_with fail
      refine HR.out.mono ?_; rintro e w1 ⟨v, rfl, ⟨va, vc, rfl, hp⟩, hb1⟩
      have HBa := Lib.hid hb1; clear hb1 hp
      go_wp2_with fail
      refine (HR2.out _ HBa.out).mono ?_; rintro e w2 ⟨rfl, hb2⟩
      have HBb := Lib.hid (HBa.out.trans (hb2.mono HBa.out.size)); clear hb2
      go_wp2_with fail
      refine (HK.out _).mono ?_; rintro e w5 ⟨rfl, hb5⟩
      go_wp2_with fail
      go_ret
      exact ⟨rfl, HBb.out.trans (hb5.mono HBb.out.size)⟩
end Go.Proofs.Ytgpacajlfclobaa
