/- The walk of the document's IsReducible. -/
import Derived.Test.YtmljmmnofhhheaaWL
namespace Go.Proofs.Ytmljmmnofhhheaa
open Go.RowKit

/-- The bools that lie in a block. -/
def setAt (w : World) (q : Nat) : NSet := fun j => match w.cell? ⟨q, j, none⟩ with | some (.bool b) => b | _ => false
theorem setAt_row {w : World} {q n : Nat} {S : NSet} (h : BRow w q n S) (hS : ∀ j, n ≤ j → S j = false) : setAt w q = S := by
  funext j
  unfold setAt
  rcases Nat.lt_or_ge j n with c | c
  · rw [h.cell c]
  · rw [cell_of_row w q j _ _ _ h, Array.getElem?_eq_none (by rw [boolArr_size]; exact c), hS j c]
theorem setUpto_zero {S : NSet} {n : Nat} (hS : ∀ j, n ≤ j → S j = false) : (setUpto S n).length = 0 ↔ ¬ ∃ j, S j = true := by
  unfold setUpto
  rw [List.length_eq_zero_iff, List.filter_eq_nil_iff]
  constructor
  · intro h ⟨j, hj⟩
    refine h j ?_ hj
    rw [List.mem_range]
    apply Nat.lt_of_not_le
    intro c
    rw [hS j c] at hj; cases hj
  · intro h j _ hj
    exact h ⟨j, hj⟩
theorem ret_zero {n : Nat} {q : Prop} {_ : Decidable q} {v : Value} (h : n = 0 ↔ q) : Ending.returned (.tuple #[.bool ((n : Int) == 0), v]) = .returned (.tuple #[.bool (decide q), v]) := by
  have : ((n : Int) == 0) = decide q := by
    rw [Bool.eq_iff_iff, decide_eq_true_iff, ← h]
    simp
  rw [this]

set_option maxRecDepth 100000 in
set_option maxHeartbeats 4000000 in
theorem rIsReducible_any (g0 : List (List Int)) (a : Option Addr) (cap : Nat) (w : World) (hin : RowsIn w a g0) (hs : Short g0) :
    Calls Try.prog 14 #[.slice a g0.length cap] w fun e w' => e = .returned (.tuple #[.bool (redR g0), .int .i64 (validE g0)]) ∧ Below w.heap.size w w' := by
  have HV := Lib.hid (rValidate_any g0 a cap w hin hs)
  by_cases hv : validE g0 = 0
  · have hn : redR g0 = redB (gN g0) := by unfold redR; rw [if_pos hv]
    have ok := valid_ok hv
    have hg := hin.graph hv
    have hlen : g0.length = (gN g0).length := by rw [gN_len]
    have HR := Lib.hid (rReach_row a cap (gN g0) 0 (-1) w hg ok ok.pos)
    have HOut : Hid (∀ j, (gN g0).length ≤ j → rs (gN g0) (-1) 0 j = false) := Lib.hid (fun j h => rs_out (but := -1) (j := j) ok ok.pos h)
    have HRd : Hid (∀ S v, Sub S (rs (gN g0) (-1) 0) → S v = true → ((succ (gN g0) v).any (fun s => S s && !(domB (gN g0) s v)) = true ↔ ∃ u, S u = true ∧ fwdR (gN g0) v u)) := Lib.hid fun S v hS hv => by
      rw [List.any_eq_true]
      constructor
      · rintro ⟨s, hs, h⟩
        simp only [Bool.and_eq_true, Bool.not_eq_true'] at h
        exact ⟨s, h.1, hS v hv, goesI_iff.2 ⟨s, hs, rfl⟩, h.2⟩
      · rintro ⟨u, hu, _, h2, h3⟩
        obtain ⟨x, hx, e⟩ := goesI_iff.1 h2
        have : x = u := by omega
        subst this
        exact ⟨x, hx, by simp [hu, h3]⟩
    rw [hn]; rw [hv] at HV; rw [hv]
    unfold redB
    rw [hlen] at HV; rw [hlen]
    clear hin hs hv hn hlen
    generalize gN g0 = g at *
    have h10 := ok.ten
    have HG := Lib.hid hg
    clear hg
    have HFit := Lib.hid ok.fits
    have HOk := Lib.hid ok
    generalize rs g (-1) 0 = S0 at *
    generalize fwdR g = R at *
    have HFlip : Hid (HasCore R S0 ↔ HasCore (fun a b => R b a) S0) := Lib.hid (by
      have h10 : ∀ j, S0 j = true → j < 10 := fun j hj => by
        apply Nat.lt_of_not_le
        intro c
        rw [HOut.out j (by omega)] at hj; cases hj
      exact ⟨core_flip h10, fun h => by have := core_flip h10 h; exact this⟩)
    go_enter Try.func14, Try.ntmps14
    go_wp2_with fail
    refine HV.out.mono ?_; rintro e w0 ⟨rfl, rfl⟩
    go_wp2_with fail
    refine HR.out.mono ?_; rintro e w1 ⟨q, rcap, rfl, hqw, hrow, hb1⟩
    have HB := Lib.hid hb1; have HRow := Lib.hid hrow
    clear hb1 hrow HV HR
    go_wp2_with fail
    go_loopw [6] (fun _ wr => ∃ S, Sub S S0 ∧ (∀ U, Sub U S0 → Core (fun a b => R b a) U → Sub U S) ∧ BRow wr q g.length S ∧ Below w.heap.size w wr) (fun _ wr => 10 - cnt (setAt wr q))
    case atStart => exact ⟨S0, fun _ h => h, fun _ h _ => h, HRow.out, HB.out⟩
    case round =>
      obtain ⟨S, hsub, hcore, hrow, hbl⟩ := hrel
      have hSout : ∀ j, g.length ≤ j → S j = false := fun j hj => by
        rw [← Bool.not_eq_true]
        intro c
        have := hsub j c
        rw [HOut.out j hj] at this; cases this
      have HSub := Lib.hid hsub; have HCore := Lib.hid hcore; have HR0 := Lib.hid hrow; have HBl := Lib.hid hbl
      have HAt := Lib.hid (setAt_row hrow hSout)
      have HSout := Lib.hid hSout
      clear hsub hcore hrow hbl hSout
      generalize hwr0 : wr = wr0 at *
      have HW0 := Lib.hid hwr0; clear hwr0
      go_wp2_with fail
      go_loopw [6, 7] (fun gn i wr => ∃ (j : Nat) (b : Bool) (T : NSet), j ≤ g.length ∧ gn = .bool b ∧ i = .int .i64 j ∧ Peel2 (fun a b => R b a) S j b T ∧ BRow wr q g.length T ∧ Below w.heap.size w wr) (fun _ i _ => g.length - (intOf i).toNat)
      case atStart => exact ⟨0, false, S, Nat.zero_le _, rfl, rfl, Peel2.zero, HR0.out, HBl.out⟩
      case round =>
        obtain ⟨j, b, T, hj, rfl, rfl, hpe, hrow, hbl⟩ := hrel
        by_cases hjl : j < g.length
        · have hcell := hrow.cell hjl
          have hqlt := hrow.lt
          obtain ⟨gb, goff, a', cap', rfl, hcell0, hrow0⟩ := HG.out j hjl
          have hcg := keep hcell0 hbl
          have HNin := Lib.hid (hrow0.below hbl)
          have hsubT : Sub T S0 := fun u hu => HSub.out u (hpe.sub u hu)
          have hdg := HOk.out.deg j
          cases hT : T j
          · rw [hT] at hcell
            have HSt := Lib.hid (hpe.stays (fun c => by rw [hT] at c; cases c))
            have HRw := Lib.hid hrow; have HBl2 := Lib.hid hbl
            clear hpe hrow hbl hT hsubT hcell0 hrow0
            go_wp2_with fail
            go_roundw
            case rel => exact ⟨j + 1, b, T, by omega, rfl, by go_num, HSt.out, HRw.out, HBl2.out⟩
            case measure => simp [intOf]; omega
          · rw [hT] at hcell
            have HRd1 := Lib.hid (HRd.out T j hsubT hT)
            have HSt := Lib.hid (fun h => hpe.stays (j := j) (fun _ => h))
            have HGo := Lib.hid (hpe.goes (by omega) hT)
            have HRw := Lib.hid hrow; have HBl2 := Lib.hid hbl
            clear hpe hrow hbl hT hsubT hcell0 hrow0
            generalize hwr1 : wr = wr1 at *
            clear hwr1
            generalize hpp : (fun s => T s && !(domB g s j)) = p at *
            have HPP : Hid (∀ s, p s = (T s && !(domB g s j))) := Lib.hid fun s => by rw [← hpp]
            clear hpp
            have hc0 : (!(((succ g j).take 0).any p)) = true := by simp
            have HC0 := Lib.hid hc0; clear hc0
            go_wp2_with fail
            go_loopw [8, 9] (fun la i wr => ∃ m : Nat, m ≤ (succ g j).length ∧ i = .int .i64 m ∧ la = .bool (!(((succ g j).take m).any p)) ∧ Below wr1.heap.size wr1 wr) (fun _ i _ => (succ g j).length - (intOf i).toNat)
            case atStart => exact ⟨0, Nat.zero_le _, rfl, by rw [HC0.out], Below.refl _ _⟩
            case round =>
              obtain ⟨m, hm, rfl, rfl, hbm⟩ := hrel
              have hcg2 := keep hcg hbm
              by_cases hml : m < (succ g j).length
              · obtain ⟨b2, off2, rfl, hx2⟩ := HNin.out.below hbm m hml
                have hx2l := HFit.out _ _ (getD_mem hml)
                have hat := any_take (succ g j) p 0 m hml
                have hbw := HBl2.out.trans (hbm.mono HBl2.out.size)
                have hDom := rDominates_any g (some ⟨gb, goff, none⟩) cap ((succ g j).getD m 0) j wr (HG.out.below hbw) HOk.out hjl
                have hcs := (HRw.out.below hbm hqlt).cell hx2l
                have hpx := HPP.out ((succ g j).getD m 0)
                have HDom := Lib.hid hDom; have HAny := Lib.hid hat; have HPX := Lib.hid hpx; have HBm := Lib.hid hbm
                clear hat hDom hpx hbm hbw
                generalize (succ g j).getD m 0 = s at *
                generalize ((succ g j).take m).any p = A at *
                cases hTs : T s
                · rw [hTs] at hcs
                  have HA2 : Hid (((succ g j).take (m + 1)).any p = A) := Lib.hid (by rw [HAny.out, HPX.out, hTs]; simp)
                  clear hTs
                  go_wp2_with fail
                  go_roundw
                  case rel => exact ⟨m + 1, by omega, by go_num, by rw [HA2.out], HBm.out⟩
                  case measure => simp [intOf]; omega
                · rw [hTs] at hcs
                  cases hd : domB g s j
                  · rw [hd] at HDom
                    have HA2 : Hid (((succ g j).take (m + 1)).any p = true) := Lib.hid (by rw [HAny.out, HPX.out, hTs, hd]; simp)
                    clear hTs hd
                    go_wp2_with fail
                    refine HDom.out.mono ?_; rintro e w3 ⟨rfl, hb3⟩
                    go_wp2_with fail
                    go_roundw
                    case rel => exact ⟨m + 1, by omega, by go_num, by rw [HA2.out]; rfl, HBm.out.trans (hb3.mono HBm.out.size)⟩
                    case measure => simp [intOf]; omega
                  · rw [hd] at HDom
                    have HA2 : Hid (((succ g j).take (m + 1)).any p = A) := Lib.hid (by rw [HAny.out, HPX.out, hTs, hd]; simp)
                    clear hTs hd
                    go_wp2_with fail
                    refine HDom.out.mono ?_; rintro e w3 ⟨rfl, hb3⟩
                    go_wp2_with fail
                    go_roundw
                    case rel => exact ⟨m + 1, by omega, by go_num, by rw [HA2.out], HBm.out.trans (hb3.mono HBm.out.size)⟩
                    case measure => simp [intOf]; omega
              · obtain rfl : m = (succ g j).length := by omega
                have hrowm := HRw.out.below hbm hqlt
                have hbw := HBl2.out.trans (hbm.mono HBl2.out.size)
                rw [List.take_length]
                cases hany : (succ g j).any p
                · have HG := Lib.hid (HGo.out (fun u hu hr => by have := HRd1.out.2 ⟨u, hu, hr⟩; rw [hany] at this; cases this))
                  have hf := hrowm.free j
                  have hcj := hrowm.cell hjl
                  have HRm := Lib.hid hrowm; have HBw := Lib.hid hbw
                  clear hrowm hbw hany hbm
                  go_wp2_with fail
                  go_roundw
                  case rel => exact ⟨j + 1, true, erase T j, by omega, rfl, by go_num, HG.out, HRm.out.set j false, HBw.out.setCell hqw _⟩
                  case measure => simp [intOf]; omega
                · have HS := Lib.hid (HSt.out (HRd1.out.1 hany))
                  have HRm := Lib.hid hrowm; have HBw := Lib.hid hbw
                  clear hrowm hbw hany hbm
                  go_wp2_with fail
                  go_roundw
                  case rel => exact ⟨j + 1, b, T, by omega, rfl, by go_num, HS.out, HRm.out, HBw.out⟩
                  case measure => simp [intOf]; omega
        · obtain rfl : j = g.length := by omega
          cases b
          · obtain ⟨rfl, hm⟩ := hpe.same rfl
            have hSt : Core (fun a b => R b a) T := fun v hv => hm v (by
              apply Nat.lt_of_not_le
              intro c
              rw [HSout.out v c] at hv; cases hv) hv
            have hfin := Peel.last HSub.out HCore.out hSt
            have hz := (setUpto_zero HSout.out).trans (not_congr (hfin.trans HFlip.out.symm))
            have hbs : BoolSl wr (.slice (some ⟨q, 0, none⟩) g.length rcap) g.length T := ⟨q, rcap, rfl, fun k hk => hrow.cell hk⟩
            have HSet := Lib.hid (rSet_any _ _ _ _ hbs (by omega))
            have HZ := Lib.hid hz; have HBl2 := Lib.hid hbl
            clear hpe hm hSt hfin hz hbs hrow hbl
            go_wp2_with fail
            refine HSet.out.mono ?_; rintro e w3 ⟨v3, rfl, ⟨la, lc, rfl, _⟩, hb3⟩
            go_wp2_with fail
            go_ret2
            exact ⟨ret_zero HZ.out, HBl2.out.trans (hb3.mono HBl2.out.size)⟩
          · have hlt := hpe.less rfl
            have hTo : ∀ j, g.length ≤ j → T j = false := fun j hj => by
              rw [← Bool.not_eq_true]
              intro c
              have := hpe.sub j c
              rw [HSout.out j hj] at this; cases this
            have hat := setAt_row hrow hTo
            have hcT := cnt_ten T
            have HRel : Hid (∃ S, Sub S S0 ∧ (∀ U, Sub U S0 → Core (fun a b => R b a) U → Sub U S) ∧ BRow wr q g.length S ∧ Below w.heap.size w wr) := Lib.hid ⟨T, fun u hu => HSub.out u (hpe.sub u hu), fun U hU hc => hpe.core U (HCore.out U hU hc) hc, hrow, hbl⟩
            have HM : Hid (10 - cnt (setAt wr q) < 10 - cnt (setAt wr0 q)) := Lib.hid (by rw [hat, HAt.out]; omega)
            clear hpe hrow hbl hlt hTo hat hcT
            go_wp2_with fail
            go_roundw
            case rel => exact HRel.out
            case measure => exact HM.out
  · have hn : redR g0 = false := by unfold redR; rw [if_neg hv]
    rw [hn]
    generalize validE g0 = V at *
    have hvb : (V != 0) = true := by simpa using hv
    clear hv hn
    go_enter Try.func14, Try.ntmps14
    go_wp2_with fail
    refine HV.out.mono ?_; rintro e w1 ⟨rfl, rfl⟩
    go_wp2_with fail
    go_ret2
    exact ⟨rfl, Below.refl _ _⟩
end Go.Proofs.Ytmljmmnofhhheaa
