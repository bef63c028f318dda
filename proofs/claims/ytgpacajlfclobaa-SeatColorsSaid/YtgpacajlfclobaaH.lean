/- The walk of the document's Fewest. -/
import Derived.Test.YtgpacajlfclobaaE
namespace Go.Proofs.Ytgpacajlfclobaa
open Go.RowKit

theorem ringB_succ (F : PF) (t n r : Nat) (al : Bool) (le : Nat) : ringB F t (n + 1) r al le = match F r with
    | none => false
    | some x => if x = t then (al && decide (rdN F r = 1)) && decide (min le r = t) else ringB F t n x (al && decide (rdN F r = 1)) (min le r) := rfl
theorem fewUpto_le (l : List (Nat × Nat)) (k : Nat) (hk : k ≤ l.length) : fewUpto l k ≤ 2 * k := by
  induction k with
  | zero => simp [fewUpto]
  | succ k ih =>
    have := ih (by omega)
    rw [fewUpto_next (by omega)]
    have : oneN l (l.getD k (0, 0)) ≤ 2 := by unfold oneN; split <;> (try split) <;> omega
    omega
theorem fewR_eq {l : List (Int × Int)} (hv : validM l = 0) : fewR l = fewUpto (toN l) (toN l).length := by
  unfold fewR
  rw [if_pos hv, few_row (valid_moves hv).1 31]

set_option maxRecDepth 100000 in
set_option maxHeartbeats 4000000 in
theorem rFewest_any (l0 : List (Int × Int)) (a : Option Addr) (cap : Nat) (w : World) (hin : MovesIn w a l0) :
    Calls Try.prog 10 #[.slice a l0.length cap] w fun e w' => e = .returned (.tuple #[.int .i64 (fewR l0 : Nat), .int .i64 (validM l0)]) ∧ Below w.heap.size w w' := by
  have HV := Lib.hid (rValidate_any l0 a cap w hin)
  by_cases hv : validM l0 = 0
  · have hf := fewR_eq hv
    have hok := (valid_moves hv).1
    have hpi := hin.pairs hv
    rw [hf]
    rw [hv] at HV ⊢
    rw [← toN_len l0] at HV ⊢
    generalize toN l0 = l at *
    clear hin hf hv
    have hl8 := hok.len
    have HI := Lib.hid hpi
    have HRd : Hid (∀ (r : Nat) (w' : World), Below w.heap.size w w' → Calls Try.prog 21 #[.slice a l.length cap, .int .i64 (r : Nat)] w' fun e w'' => e = .returned (.int .i64 (rdN (fromF l) r : Nat)) ∧ Below w'.heap.size w' w'') := Lib.hid fun r w' hb => by
      have := readers_any l a cap r w' (hpi.below hb) hl8
      rwa [readers_eq hok] at this
    have HFr : Hid (∀ (r : Nat) (w' : World), Below w.heap.size w w' → Calls Try.prog 22 #[.slice a l.length cap, .int .i64 (r : Nat)] w' fun e w'' => e = .returned (.int .i64 (fromI l r)) ∧ Below w'.heap.size w' w'') := Lib.hid fun r w' hb => from_any l a cap r w' (hpi.below hb) hl8
    have HNext : Hid (∀ k, k < l.length → fewUpto l (k + 1) = fewUpto l k + oneN l (l.getD k (0, 0))) := Lib.hid fun k hk => fewUpto_next hk
    have HLe : Hid (∀ k, k ≤ l.length → fewUpto l k ≤ 2 * k) := Lib.hid fun k hk => fewUpto_le l k hk
    have HOne : Hid (∀ m, oneN l m = if m.1 = m.2 then 0 else if ringB (fromF l) m.1 l.length m.1 true m.1 then 2 else 1) := Lib.hid fun m => rfl
    have HSucc : Hid (∀ t n r al le, ringB (fromF l) t (n + 1) r al le = match fromF l r with
      | none => false
      | some x => if x = t then (al && decide (rdN (fromF l) r = 1)) && decide (min le r = t) else ringB (fromF l) t n x (al && decide (rdN (fromF l) r = 1)) (min le r)) := Lib.hid fun t n r al le => rfl
    have HZero : Hid (∀ t r al le, ringB (fromF l) t 0 r al le = false) := Lib.hid fun t r al le => rfl
    have HFI : Hid (∀ r, fromI l r = match fromF l r with
      | some x => ((x : Nat) : Int)
      | none => -1) := Lib.hid fun r => rfl
    clear hpi hok
    generalize fromF l = F at *
    go_enter Try.func10, Try.ntmps10
    go_wp2_with fail
    refine HV.out.mono ?_; rintro e w1 ⟨rfl, hb1⟩
    have HB1 := Lib.hid hb1
    clear hb1
    go_wp2_with fail
    go_loopw [5, 6] (fun nv i wr => ∃ k : Nat, k ≤ l.length ∧ i = .int .i64 k ∧ nv = .int .i64 (fewUpto l k : Nat) ∧ Below w.heap.size w wr) (fun _ i _ => l.length - (intOf i).toNat)
    case atStart => exact ⟨0, Nat.zero_le _, rfl, rfl, HB1.out⟩
    case round =>
      obtain ⟨k, hk, rfl, rfl, hb⟩ := hrel
      by_cases hlt : k < l.length
      · have hki : (k : Int) < (l.length : Int) := by omega
        obtain ⟨b, off, rfl, hc1, hc2⟩ := HI.out.below hb k hlt
        have HB := Lib.hid hb
        have HNk := Lib.hid (HNext.out k hlt)
        have hle := HLe.out k (by omega)
        have HOk := Lib.hid (HOne.out (l.getD k (0, 0)))
        clear hb
        generalize l.getD k (0, 0) = m at *
        obtain ⟨t, y⟩ := m
        have hc1 : wr.cell? ⟨b, off + k * 2, none⟩ = some (.int .i64 (t : Nat)) := hc1
        have hc2 : wr.cell? ⟨b, off + k * 2 + 1, none⟩ = some (.int .i64 (y : Nat)) := hc2
        have HC1 := Lib.hid hc1
        generalize fewUpto l k = n at *
        by_cases hty : t = y
        · have htb : ((t : Int) == (y : Int)) = true := by simp [hty]
          have HN : Hid (fewUpto l (k + 1) = n) := Lib.hid (by rw [HNk.out, HOk.out]; simp [hty])
          clear hty HNk HOk
          go_wp2_with fail
          go_quiet (fail)
          go_wp2_with fail
          go_roundw
          case rel => exact ⟨k + 1, by omega, by go_num, by rw [HN.out], HB.out.trans (below_drewN (Below.refl _ _) _)⟩
          case measure => simp [intOf]; omega
        · have htb : ((t : Int) == (y : Int)) = false := by rw [beq_eq_false_iff_ne]; omega
          have HN : Hid (fewUpto l (k + 1) = n + if ringB F t l.length t true t then 2 else 1) := Lib.hid (by rw [HNk.out, HOk.out]; simp [hty])
          clear hty HNk HOk
          go_wp2_with fail
          go_quiet (fail)
          have hbq : Below w.heap.size w (wr.drewN nq) := HB.out.trans (below_drewN (Below.refl _ _) _)
          have HBq := Lib.hid hbq
          have hcq : (wr.drewN nq).cell? ⟨b, off + k * 2, none⟩ = some (.int .i64 (t : Nat)) := HC1.out
          have HCq := Lib.hid hcq
          clear hbq hcq
          go_wp2_with fail
          generalize wr.drewN nq = wq at *
          obtain ⟨LL, HLL⟩ : ∃ LL, Hid (LL = l.length) := ⟨_, Lib.hid rfl⟩
          have hLL : LL = l.length := HLL.out
          have hLp : 0 < LL := by omega
          rw [← hLL] at HN
          have HNo : Hid (ringB F t LL t true t = false → fewUpto l (k + 1) = n + 1) := Lib.hid fun h => by rw [HN.out, h]; rfl
          have HYes : Hid (ringB F t LL t true t = true → fewUpto l (k + 1) = n + 2) := Lib.hid fun h => by rw [HN.out, h]; rfl
          have HHead : Hid (ringB F t LL t true t = ringB F t (LL - 0) t true t) := Lib.hid rfl
          go_loopw [7, 8, 9, 10] (fun le al r i ws => ∃ (j rr ll : Nat) (ab : Bool), j ≤ LL ∧ i = .int .i64 (j : Nat) ∧ le = .int .i64 (ll : Nat) ∧ al = .bool ab ∧ r = .int .i64 (rr : Nat) ∧ ringB F t LL t true t = ringB F t (LL - j) rr ab ll ∧ (j = 0 ∨ rr ≠ t) ∧ Below w.heap.size w ws ∧ Below wq.heap.size wq ws) (fun _ _ _ i _ => LL - (intOf i).toNat)
          case atStart => exact ⟨0, t, t, true, Nat.zero_le _, rfl, rfl, rfl, rfl, HHead.out, .inl rfl, HBq.out, Below.refl _ _⟩
          case round =>
            obtain ⟨j, rr, ll, ab, hj, rfl, rfl, rfl, rfl, hring, hfirst, hb, hbq⟩ := hrel
            have HB2 := Lib.hid hb; have HBq2 := Lib.hid hbq; have HRing := Lib.hid hring
            clear hb hbq hring
            by_cases hjl : j < LL
            · have hji : (j : Int) < (l.length : Int) := by omega
              have HRj : Hid (ringB F t LL t true t = match F rr with
                | none => false
                | some x => if x = t then (ab && decide (rdN F rr = 1)) && decide (min ll rr = t) else ringB F t (LL - (j + 1)) x (ab && decide (rdN F rr = 1)) (min ll rr)) := Lib.hid (by rw [HRing.out, show LL - j = LL - (j + 1) + 1 by omega]; exact HSucc.out _ _ _ _ _)
              have HFIr := Lib.hid (HFI.out rr)
              obtain ⟨mn, hmn1, hmn2⟩ : ∃ mn : Nat, min ll rr = mn ∧ min (ll : Int) (rr : Int) = (mn : Int) := ⟨min ll rr, rfl, by omega⟩
              rw [hmn1] at HRj
              clear hmn1 hfirst
              cases ab
              · have HBc := HB2; have HBqc := HBq2
                go_wp2_with fail
                refine (HFr.out rr _ HBc.out).mono ?_; rintro e w5 ⟨rfl, hb5⟩
                have HBz := Lib.hid (HBc.out.trans (hb5.mono HBc.out.size)); have HBqz := Lib.hid (HBqc.out.trans (hb5.mono HBqc.out.size))
                have hcz := keep HCq.out HBqz.out
                clear hb5
                cases hF : F rr with
                | none =>
                  have hfi : fromI l rr = -1 := by rw [HFIr.out, hF]
                  have HNn := Lib.hid (HNo.out (by rw [HRj.out, hF]))
                  have hneg : ((-1 : Int) == (t : Int)) = false := by rw [beq_eq_false_iff_ne]; omega
                  rw [hfi]
                  clear hF hfi
                  go_wp2_with fail
                  go_roundw
                  case rel => exact ⟨k + 1, by omega, by go_num, by rw [HNn.out]; go_num, HBz.out⟩
                  case measure => simp [intOf]; omega
                | some x =>
                  have hfi : fromI l rr = ((x : Nat) : Int) := by rw [HFIr.out, hF]
                  rw [hfi]
                  by_cases hxt : x = t
                  · subst hxt
                    have htt : ((x : Int) == (x : Int)) = true := by simp
                    have hx0 : ¬ (x : Int) < 0 := by omega
                    have HNn := Lib.hid (HNo.out (by rw [HRj.out, hF]; simp))
                    clear hF hfi
                    go_wp2_with fail
                    go_roundw
                    case rel => exact ⟨k + 1, by omega, by go_num, by rw [HNn.out]; go_num, HBz.out⟩
                    case measure => simp [intOf]; omega
                  · have htt : ((x : Int) == (t : Int)) = false := by rw [beq_eq_false_iff_ne]; omega
                    have hx0 : ¬ (x : Int) < 0 := by omega
                    have HRn : Hid (ringB F t LL t true t = ringB F t (LL - (j + 1)) x false mn) := Lib.hid (by rw [HRj.out, hF]; simp [hxt])
                    clear hF hfi
                    go_wp2_with fail
                    go_roundw
                    case rel => exact ⟨j + 1, x, mn, false, by omega, by go_num, rfl, rfl, rfl, HRn.out, .inr hxt, HBz.out, HBqz.out⟩
                    case measure => simp [intOf]; omega
              · go_wp2_with fail
                refine (HRd.out rr _ HB2.out).mono ?_; rintro e w4 ⟨rfl, hb4⟩
                have HBc := Lib.hid (HB2.out.trans (hb4.mono HB2.out.size)); have HBqc := Lib.hid (HBq2.out.trans (hb4.mono HBq2.out.size))
                clear hb4
                by_cases hrd : rdN F rr = 1
                · have HRd1 := Lib.hid hrd
                  have hrb : ((rdN F rr : Nat) : Int) = 1 := by omega
                  rw [hrb]
                  clear hrd hrb
                  go_wp2_with fail
                  refine (HFr.out rr _ HBc.out).mono ?_; rintro e w5 ⟨rfl, hb5⟩
                  have HBz := Lib.hid (HBc.out.trans (hb5.mono HBc.out.size)); have HBqz := Lib.hid (HBqc.out.trans (hb5.mono HBqc.out.size))
                  have hcz := keep HCq.out HBqz.out
                  clear hb5
                  cases hF : F rr with
                  | none =>
                    have hfi : fromI l rr = -1 := by rw [HFIr.out, hF]
                    have HNn := Lib.hid (HNo.out (by rw [HRj.out, hF]))
                    have hneg : ((-1 : Int) == (t : Int)) = false := by rw [beq_eq_false_iff_ne]; omega
                    rw [hfi]
                    clear hF hfi
                    go_wp2_with fail
                    go_roundw
                    case rel => exact ⟨k + 1, by omega, by go_num, by rw [HNn.out]; go_num, HBz.out⟩
                    case measure => simp [intOf]; omega
                  | some x =>
                    have hfi : fromI l rr = ((x : Nat) : Int) := by rw [HFIr.out, hF]
                    rw [hfi]
                    by_cases hxt : x = t
                    · subst hxt
                      have htt : ((x : Int) == (x : Int)) = true := by simp
                      have hx0 : ¬ (x : Int) < 0 := by omega
                      by_cases hmx : mn = x
                      · have HNn := Lib.hid (HYes.out (by rw [HRj.out, hF]; simp [hmx, HRd1.out]))
                        have hmb : ((mn : Int) == (x : Int)) = true := by simp [hmx]
                        clear hF hfi hmx
                        go_wp2_with fail
                        go_roundw
                        case rel => exact ⟨k + 1, by omega, by go_num, by rw [HNn.out]; go_num, HBz.out⟩
                        case measure => simp [intOf]; omega
                      · have HNn := Lib.hid (HNo.out (by rw [HRj.out, hF]; simp [hmx]))
                        have hmb : ((mn : Int) == (x : Int)) = false := by rw [beq_eq_false_iff_ne]; omega
                        clear hF hfi hmx
                        go_wp2_with fail
                        go_roundw
                        case rel => exact ⟨k + 1, by omega, by go_num, by rw [HNn.out]; go_num, HBz.out⟩
                        case measure => simp [intOf]; omega
                    · have htt : ((x : Int) == (t : Int)) = false := by rw [beq_eq_false_iff_ne]; omega
                      have hx0 : ¬ (x : Int) < 0 := by omega
                      have HRn : Hid (ringB F t LL t true t = ringB F t (LL - (j + 1)) x true mn) := Lib.hid (by rw [HRj.out, hF]; simp [hxt, HRd1.out])
                      clear hF hfi
                      go_wp2_with fail
                      go_roundw
                      case rel => exact ⟨j + 1, x, mn, true, by omega, by go_num, rfl, rfl, rfl, HRn.out, .inr hxt, HBz.out, HBqz.out⟩
                      case measure => simp [intOf]; omega
                · have HRd1 := Lib.hid hrd
                  have hrb : (((rdN F rr : Nat) : Int) == 1) = false := by rw [beq_eq_false_iff_ne]; omega
                  clear hrd
                  generalize ((rdN F rr : Nat) : Int) = rdv at *
                  go_wp2_with fail
                  refine (HFr.out rr _ HBc.out).mono ?_; rintro e w5 ⟨rfl, hb5⟩
                  have HBz := Lib.hid (HBc.out.trans (hb5.mono HBc.out.size)); have HBqz := Lib.hid (HBqc.out.trans (hb5.mono HBqc.out.size))
                  have hcz := keep HCq.out HBqz.out
                  clear hb5
                  cases hF : F rr with
                  | none =>
                    have hfi : fromI l rr = -1 := by rw [HFIr.out, hF]
                    have HNn := Lib.hid (HNo.out (by rw [HRj.out, hF]))
                    have hneg : ((-1 : Int) == (t : Int)) = false := by rw [beq_eq_false_iff_ne]; omega
                    rw [hfi]
                    clear hF hfi
                    go_wp2_with fail
                    go_roundw
                    case rel => exact ⟨k + 1, by omega, by go_num, by rw [HNn.out]; go_num, HBz.out⟩
                    case measure => simp [intOf]; omega
                  | some x =>
                    have hfi : fromI l rr = ((x : Nat) : Int) := by rw [HFIr.out, hF]
                    rw [hfi]
                    by_cases hxt : x = t
                    · subst hxt
                      have htt : ((x : Int) == (x : Int)) = true := by simp
                      have hx0 : ¬ (x : Int) < 0 := by omega
                      have HNn := Lib.hid (HNo.out (by rw [HRj.out, hF]; simp [HRd1.out]))
                      clear hF hfi
                      go_wp2_with fail
                      go_roundw
                      case rel => exact ⟨k + 1, by omega, by go_num, by rw [HNn.out]; go_num, HBz.out⟩
                      case measure => simp [intOf]; omega
                    · have htt : ((x : Int) == (t : Int)) = false := by rw [beq_eq_false_iff_ne]; omega
                      have hx0 : ¬ (x : Int) < 0 := by omega
                      have HRn : Hid (ringB F t LL t true t = ringB F t (LL - (j + 1)) x false mn) := Lib.hid (by rw [HRj.out, hF]; simp [hxt, HRd1.out])
                      clear hF hfi
                      go_wp2_with fail
                      go_roundw
                      case rel => exact ⟨j + 1, x, mn, false, by omega, by go_num, rfl, rfl, rfl, HRn.out, .inr hxt, HBz.out, HBqz.out⟩
                      case measure => simp [intOf]; omega
            · obtain rfl : j = LL := by omega
              have HNn := Lib.hid (HNo.out (by rw [HRing.out, Nat.sub_self]; exact HZero.out _ _ _ _))
              have hrt : ((rr : Int) == (t : Int)) = false := by rw [beq_eq_false_iff_ne]; omega
              have hji : ¬ (j : Int) < (l.length : Int) := by omega
              have hcz := keep HCq.out HBq2.out
              have HBz := HB2
              clear hfirst
              go_wp2_with fail
              go_roundw
              case rel => exact ⟨k + 1, by omega, by go_num, by rw [HNn.out]; go_num, HBz.out⟩
              case measure => simp [intOf]; omega
      · obtain rfl : k = l.length := by omega
        have HB := Lib.hid hb
        clear hb
        go_wp2_with fail
        go_ret2
        exact ⟨rfl, HB.out⟩
  · have hf : fewR l0 = 0 := by unfold fewR; rw [if_neg hv]
    rw [hf]
    generalize validM l0 = E at *
    have hE : (E == 0) = false := by rw [beq_eq_false_iff_ne]; exact hv
    clear hin hv hf
    go_enter Try.func10, Try.ntmps10
    go_wp2_with fail
    refine HV.out.mono ?_; rintro e w1 ⟨rfl, hb1⟩
    go_wp2_with fail
    go_ret2
    exact ⟨rfl, hb1⟩
end Go.Proofs.Ytgpacajlfclobaa
