/- Holds of the document. -/
import Derived.Test.YtahaoddilejpnaaHH
namespace Go.Proofs.Ytahaoddilejpnaa
open Go.RowKit

set_option maxRecDepth 100000 in
set_option maxHeartbeats 1000000 in
theorem rHolds_any (n : Int) (g : List (List Int)) (m : List Bool) (a a2 : Option Addr) (cap cap2 : Nat) (w : World) (hin : RowsIn w a g) (hs : Short g) (hm : BoolsIn w a2 m) (hml : m.length ≤ 5000) :
    Calls Try.prog 15 #[.int .i64 n, .slice a g.length cap, .slice a2 m.length cap2] w fun e w' => e = .returned (.tuple #[.bool (holdV n g m), .int .i64 (holdC n g m)]) ∧ w = w' := by
  have HV := Lib.hid (rValidate_any n g a cap w hin hs)
  have HI := Lib.hid hin; have HR := Lib.hid hs.row; have hl := hs.len; have HM := Lib.hid hm
  have hE1 : holdV n g m = if validE n g = 0 then (if (m.length : Int) = n then holdsB g m else false) else false := rfl
  have hE2 : holdC n g m = if validE n g = 0 then (if (m.length : Int) = n then 0 else 1) else validE n g := rfl
  have HL : Hid (validE n g = 0 → Lits n g) := Lib.hid fun h => (validE_ok h).2.2
  rw [hE1, hE2]
  clear hin hm hE1 hE2 hs
  generalize validE n g = e at *
  generalize hq : m.length = q at *
  have HQ := Lib.hid hq; clear hq
  by_cases he : e = 0
  rotate_left
  · have he' : (e != 0) = true := by simpa using he
    clear HI HR HM
    generalize g.length = p at *
    go_enter Try.func15, Try.ntmps15
    go_wp2_with fail
    refine HV.out.mono ?_; rintro e w2 ⟨rfl, rfl⟩
    go_wp2_with fail
    go_ret2
    exact ⟨rfl, rfl⟩
  subst he
  by_cases hn : (q : Int) = n
  rotate_left
  · have hn' : ((q : Int) != n) = true := by simpa using hn
    clear HI HR HM
    generalize g.length = p at *
    go_enter Try.func15, Try.ntmps15
    go_wp2_with fail
    refine HV.out.mono ?_; rintro e w2 ⟨rfl, rfl⟩
    go_wp2_with fail
    go_ret2
    exact ⟨rfl, rfl⟩
  have HT := Lib.hid (HL.out rfl)
  rw [if_pos rfl, if_pos hn, if_pos rfl, if_pos hn]
  subst hn
  have HE : Hid (holdsB g m = g.all fun k => k.any (litT m)) := Lib.hid rfl
  clear HL
  generalize holdsB g m = res at *
  go_enter Try.func15, Try.ntmps15
  go_wp2_with fail
  refine HV.out.mono ?_; rintro e w2 ⟨rfl, rfl⟩
  go_wp2_with fail
  go_loopw [9] (fun i wr => ∃ k : Nat, k ≤ g.length ∧ i = .int .i64 k ∧ w = wr ∧ ∀ j, j < k → (g.getD j []).any (litT m) = true) (fun i _ => g.length - (intOf i).toNat)
  case atStart => exact ⟨0, Nat.zero_le _, rfl, rfl, fun j hj => absurd hj (Nat.not_lt_zero _)⟩
  case round =>
    obtain ⟨k, hk, rfl, rfl, hny⟩ := hrel
    have HN := Lib.hid hny; clear hny
    by_cases hlt : k < g.length
    · obtain ⟨b, off, a', cap', rfl, hc, _, _, hi⟩ := HI.out k hlt
      have hr := HR.out k hlt
      have HIn := Lib.hid hi; clear hi
      have HTk := Lib.hid (HT.out k hlt)
      generalize hx : g.getD k [] = x at *
      have HGX := Lib.hid hx; clear hx
      go_wp2_with fail
      go_loopw [10, 11] (fun s i wr => ∃ j : Nat, j ≤ x.length ∧ i = .int .i64 j ∧ w = wr ∧ s = .bool ((x.take j).any (litT m))) (fun _ i _ => x.length - (intOf i).toNat)
      case atStart => exact ⟨0, Nat.zero_le _, rfl, rfl, rfl⟩
      case round =>
        obtain ⟨j, hj, rfl, rfl, rfl⟩ := hrel
        by_cases hjl : j < x.length
        · obtain ⟨b2, off2, rfl, hc2⟩ := HIn.out j hjl
          have HS := Lib.hid (any_take_succ x 0 (litT m) j hjl)
          have hlb := lit_bds (HTk.out j hjl)
          obtain ⟨y, hy⟩ : ∃ y, litT m (x.getD j 0) = y := ⟨_, rfl⟩
          rw [hy] at HS
          generalize hlx : x.getD j 0 = l at *
          have HLX := Lib.hid hlx; clear hlx
          generalize hs : (x.take j).any (litT m) = s at *
          clear hs
          cases s
          · rcases hlb with hlb | hlb
            · have hcm : ∃ b off, a2 = some ⟨b, off, none⟩ ∧ w.cell? ⟨b, off + (l.toNat - 1), none⟩ = some (.bool y) := by
                obtain ⟨b, off, e, h⟩ := HM.out (l.toNat - 1) (by rw [HQ.out]; omega)
                refine ⟨b, off, e, ?_⟩
                rw [h, ← hy]
                unfold litT
                rw [show l.natAbs - 1 = (l.toNat - 1) by omega, decide_eq_true (by omega)]
                simp
              obtain ⟨b3, off3, rfl, hcb⟩ := hcm
              clear hy
              obtain ⟨hb1, hb2⟩ := hlb
              have hb3 : 0 ≤ l - 1 := by omega
              have hb4 : l - 1 < (q : Int) := by omega
              have hb5 : 0 < l := by omega
              cases y
              · go_wp2_with fail
                go_roundw
                case rel => exact ⟨j + 1, by omega, by go_num, by trivial, by rw [HS.out]; rfl⟩
                case measure => simp [intOf]; omega
              · go_wp2_with fail
                go_roundw
                case rel => exact ⟨j + 1, by omega, by go_num, by trivial, by rw [HS.out]; rfl⟩
                case measure => simp [intOf]; omega
            · have hcm : ∃ b off, a2 = some ⟨b, off, none⟩ ∧ w.cell? ⟨b, off + ((-l).toNat - 1), none⟩ = some (.bool !y) := by
                obtain ⟨b, off, e, h⟩ := HM.out ((-l).toNat - 1) (by rw [HQ.out]; omega)
                refine ⟨b, off, e, ?_⟩
                rw [h, ← hy]
                unfold litT
                rw [show l.natAbs - 1 = ((-l).toNat - 1) by omega, decide_eq_false (by omega)]
                simp
              obtain ⟨b3, off3, rfl, hcb⟩ := hcm
              clear hy
              obtain ⟨hb1, hb2⟩ := hlb
              have hb3 : 0 ≤ -l - 1 := by omega
              have hb4 : -l - 1 < (q : Int) := by omega
              have hb5 : l < 0 := by omega
              have hb6 : ¬ 0 < l := by omega
              cases y
              · go_wp2_with fail
                go_roundw
                case rel => exact ⟨j + 1, by omega, by go_num, by trivial, by rw [HS.out]; rfl⟩
                case measure => simp [intOf]; omega
              · go_wp2_with fail
                go_roundw
                case rel => exact ⟨j + 1, by omega, by go_num, by trivial, by rw [HS.out]; rfl⟩
                case measure => simp [intOf]; omega
          · clear hy hlb
            go_wp2_with fail
            go_roundw
            case rel => exact ⟨j + 1, by omega, by go_num, by trivial, by rw [HS.out]; simp⟩
            case measure => simp [intOf]; omega
        · have hjx : j = x.length := by omega
          rw [hjx, List.take_length]
          generalize hy : x.any (litT m) = y at *
          have HY := Lib.hid hy; clear hy
          subst hjx
          cases y
          · have HA := Lib.hid (all_at (p := fun k => k.any (litT m)) [] hlt (by rw [HGX.out]; exact HY.out))
            go_wp2_with fail
            go_ret2
            exact ⟨by rw [HE.out, HA.out]; rfl, rfl⟩
          · go_wp2_with fail
            go_roundw
            case rel => exact ⟨k + 1, by omega, by go_num, by trivial, fun i hi => by
              by_cases e : i = k
              · rw [e, HGX.out]; exact HY.out
              · exact HN.out i (by omega)⟩
            case measure => simp [intOf]; omega
    · have HA := Lib.hid (all_every (p := fun k => k.any (litT m)) [] hlt HN.out)
      have hk2 : k = g.length := by omega
      go_wp2_with fail
      go_ret2
      exact ⟨by rw [HE.out, HA.out]; rfl, rfl⟩
end Go.Proofs.Ytahaoddilejpnaa
