/- The law SeatNeeds. -/
import Derived.Test.YtgpacajlfclobaaL2
namespace Go.Proofs.Ytgpacajlfclobaa
open Go.RowKit

theorem isRow_least {l : List (Int × Int)} {os : List (Int × Int)} {sp : Int} (h : rowedE l sp = 0) (hr : isRowB (toN l) os sp.toNat = true) : fewR l ≤ os.length := by
  obtain ⟨hv, _, _⟩ := rowed_parts h
  have hl := (valid_moves hv).1
  have hsb : SameBut (runR id (toN os)) (afterR (toN l)) sp.toNat := Classical.byContradiction fun hn => by rw [isRow_no hn] at hr; cases hr
  have := row_least hl (os := toN os) (sp := sp.toNat) (rowed_ns h) fun r h1 h2 => by rw [hsb r h1 h2, afterR_want hl]
  rw [toN_len] at this
  unfold fewR
  rw [if_pos hv]; exact this

set_option maxRecDepth 100000 in
set_option maxHeartbeats 1000000 in
theorem seatNeeds_any (l os : List (Int × Int)) (a oa : Option Addr) (cap ocap : Nat) (sp : Int) (w : World) (hin : MovesIn w a l) (hcap : l.length ≤ cap) (ho : MovesIn w oa os) :
    Calls Try.prog 5 #[.slice a l.length cap, .slice oa os.length ocap, .int .i64 sp] w fun e w' => e = .returned (.bool true) ∧ Below w.heap.size w w' := by
  have HK := Lib.hid known_any
  by_cases h100 : 100 < l.length
  · have hi : (100 : Int) < (l.length : Int) := by omega
    clear hin ho
    go_enter Try.func5, Try.ntmps5
    go_wp2_with fail
    refine (HK.out _).mono ?_; rintro e w2 ⟨rfl, hb2⟩
    go_wp2_with fail
    go_ret
    exact ⟨rfl, hb2⟩
  · have hi : ¬ (100 : Int) < (l.length : Int) := by omega
    by_cases h101 : 100 < os.length
    · have hi1 : (100 : Int) < (os.length : Int) := by omega
      clear hin ho
      go_enter Try.func5, Try.ntmps5
      go_wp2_with fail
      refine (HK.out _).mono ?_; rintro e w2 ⟨rfl, hb2⟩
      go_wp2_with fail
      go_ret
      exact ⟨rfl, hb2⟩
    · have hi1 : ¬ (100 : Int) < (os.length : Int) := by omega
      have HF := Lib.hid (Fewest_any l a cap w hin hcap)
      have HR : Hid (∀ w', Below w.heap.size w w' → Calls Try.prog 14 #[.slice a l.length cap, .int .i64 sp] w' fun e w'' => e = .returned (.int .i64 (rowedE l sp)) ∧ Below w'.heap.size w' w'') := Lib.hid fun w' hb => rowed_any l a cap sp w' (hin.below hb)
      by_cases hv : validM l = 0
      · rw [hv] at HF
        by_cases hE0 : rowedE l sp = 0
        · obtain ⟨_, hs, _⟩ := rowed_parts hE0
          have HIs : Hid (∀ w', Below w.heap.size w w' → Calls Try.prog 15 #[.slice a l.length cap, .slice oa os.length ocap, .int .i64 sp] w' fun e w'' => e = .returned (.bool (isRowB (toN l) os sp.toNat)) ∧ Below w'.heap.size w' w'') := Lib.hid fun w' hb => by
            have := isRow_any (toN l) a cap os oa ocap sp.toNat w' ((hin.below hb).pairs hv) (valid_moves hv).1 (ho.below hb) (by omega)
            rw [toN_len, Int.toNat_of_nonneg hs.1] at this
            exact this
          have HLe := Lib.hid (isRow_least (os := os) hE0)
          rw [hE0] at HR
          clear hin ho hv hs hE0
          generalize fewR l = n at *
          cases hB : isRowB (toN l) os sp.toNat
          · rw [hB] at HIs
            clear hB HLe
            go_enter Try.func5, Try.ntmps5
            go_wp2_with fail
            refine HF.out.mono ?_; rintro e w1 ⟨rfl, hb1⟩
            have HBa := Lib.hid hb1; clear hb1
            go_wp2_with fail
            refine (HR.out _ HBa.out).mono ?_; rintro e w2 ⟨rfl, hb2⟩
            have HBb := Lib.hid (HBa.out.trans (hb2.mono HBa.out.size)); clear hb2
            go_wp2_with fail
            refine (HIs.out _ HBb.out).mono ?_; rintro e w3 ⟨rfl, hb3⟩
            have HBc := Lib.hid (HBb.out.trans (hb3.mono HBb.out.size)); clear hb3
            go_wp2_with fail
            refine (HK.out _).mono ?_; rintro e w5 ⟨rfl, hb5⟩
            go_wp2_with fail
            go_ret
            exact ⟨rfl, HBc.out.trans (hb5.mono HBc.out.size)⟩
          · rw [hB] at HIs
            have hle := HLe.out hB
            have hlei : (n : Int) ≤ (os.length : Int) := by omega
            clear hB HLe hle
            go_enter Try.func5, Try.ntmps5
            go_wp2_with fail
            refine HF.out.mono ?_; rintro e w1 ⟨rfl, hb1⟩
            have HBa := Lib.hid hb1; clear hb1
            go_wp2_with fail
            refine (HR.out _ HBa.out).mono ?_; rintro e w2 ⟨rfl, hb2⟩
            have HBb := Lib.hid (HBa.out.trans (hb2.mono HBa.out.size)); clear hb2
            go_wp2_with fail
            refine (HIs.out _ HBb.out).mono ?_; rintro e w3 ⟨rfl, hb3⟩
            have HBc := Lib.hid (HBb.out.trans (hb3.mono HBb.out.size)); clear hb3
            go_wp2_with fail
            refine (HK.out _).mono ?_; rintro e w5 ⟨rfl, hb5⟩
            go_wp2_with fail
            go_ret
            exact ⟨rfl, HBc.out.trans (hb5.mono HBc.out.size)⟩
        · have hEb : (rowedE l sp == 0) = false := by rw [beq_eq_false_iff_ne]; exact hE0
          clear hin ho hv
          generalize rowedE l sp = E at *
          generalize fewR l = n at *
          go_enter Try.func5, Try.ntmps5
          go_wp2_with fail
          refine HF.out.mono ?_; rintro e w1 ⟨rfl, hb1⟩
          have HBa := Lib.hid hb1; clear hb1
          go_wp2_with fail
          refine (HR.out _ HBa.out).mono ?_; rintro e w2 ⟨rfl, hb2⟩
          have HBb := Lib.hid (HBa.out.trans (hb2.mono HBa.out.size)); clear hb2
          go_wp2_with fail
          refine (HK.out _).mono ?_; rintro e w5 ⟨rfl, hb5⟩
          go_wp2_with fail
          go_ret
          exact ⟨rfl, HBb.out.trans (hb5.mono HBb.out.size)⟩
      · have hEb : (validM l == 0) = false := by rw [beq_eq_false_iff_ne]; exact hv
        clear hin ho HR
        generalize validM l = E at *
        generalize fewR l = n at *
        go_enter Try.func5, Try.ntmps5
        go_wp2_with fail
        refine HF.out.mono ?_; rintro e w1 ⟨rfl, hb1⟩
        have HBa := Lib.hid hb1; clear hb1
        go_wp2_with fail
        refine (HK.out _).mono ?_; rintro e w5 ⟨rfl, hb5⟩
        go_wp2_with fail
        go_ret
        exact ⟨rfl, HBa.out.trans (hb5.mono HBa.out.size)⟩
end Go.Proofs.Ytgpacajlfclobaa
