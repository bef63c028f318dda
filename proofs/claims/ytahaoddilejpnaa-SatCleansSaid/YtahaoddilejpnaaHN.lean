/- count and Models of the document. -/
import Derived.Test.YtahaoddilejpnaaHM
namespace Go.Proofs.Ytahaoddilejpnaa
open Go.RowKit

theorem pow_le {n : Nat} (h : n ≤ 12) : 2 ^ n ≤ 4096 := Nat.le_trans (Nat.pow_le_pow_right (by decide) h) (by decide)
theorem wrap_pow {n : Nat} (h : n ≤ 12) : wrap64 ((2 : Int) ^ n) = ((2 ^ n : Nat) : Int) := by
  have h1 := pow_le h
  have h2 : ((2 ^ n : Nat) : Int) = (2 : Int) ^ n := by simp
  rw [← h2]
  generalize 2 ^ n = P at *
  unfold wrap64
  omega
set_option maxRecDepth 100000 in
set_option maxHeartbeats 4000000 in
theorem count_any (n : Nat) (g : List (List Int)) (a : Option Addr) (cap : Nat) (w : World) (hin : RowsIn w a g) (hs : Short g) (hn : n ≤ 12) (hlit : Lits n g) :
    Calls Try.prog 36 #[.int .i64 n, .slice a g.length cap] w fun e w' => e = .returned (.int .i64 (cntTo n g (2 ^ n) : Nat)) ∧ w = w' := by
  have HI := Lib.hid hin; have HR := Lib.hid hs.row; have hl := hs.len; have HT := Lib.hid hlit
  clear hin hs hlit
  have hni : (n : Int) ≤ 12 := by omega
  have hwp := wrap_pow hn
  have hpl := pow_le hn
  generalize 2 ^ n = P at *
  have HE : Hid (∀ b, holdsB g (bitsM n b) = g.all fun k => k.any (litT (bitsM n b))) := Lib.hid fun _ => rfl
  go_enter Try.func36, Try.ntmps36
  go_wp2_with fail
  go_loopw [5, 6] (fun c i wr => ∃ b : Nat, b ≤ P ∧ i = .int .i64 b ∧ w = wr ∧ c = .int .i64 (cntTo n g b : Nat)) (fun _ i _ => P - (intOf i).toNat)
  case atStart => exact ⟨0, Nat.zero_le _, rfl, rfl, rfl⟩
  case round =>
    obtain ⟨b, hb, rfl, rfl, rfl⟩ := hrel
    have HS := Lib.hid (cntTo_succ n g b)
    have hcl := cntTo_le n g b
    generalize hc1 : cntTo n g (b + 1) = c1 at *
    have HC1 := Lib.hid hc1; clear hc1
    by_cases hbp : b < P
    · generalize cntTo n g b = c at *
      have hbi : (b : Int) < (P : Int) := by omega
      go_wp2_with fail
      go_loopw [7, 8] (fun al i wr => ∃ k : Nat, k ≤ g.length ∧ i = .int .i64 k ∧ w = wr ∧ al = .bool ((g.take k).all fun x => x.any (litT (bitsM n b)))) (fun _ i _ => g.length - (intOf i).toNat)
      case atStart => exact ⟨0, Nat.zero_le _, rfl, rfl, rfl⟩
      case round =>
        obtain ⟨k, hk, rfl, rfl, rfl⟩ := hrel
        by_cases hlt : k < g.length
        · have HA := Lib.hid (all_take_succ g [] (fun x => x.any (litT (bitsM n b))) k hlt)
          generalize hal : (g.take k).all (fun x => x.any (litT (bitsM n b))) = al at *
          have HAl := Lib.hid hal; clear hal
          have hki : (k : Int) < (g.length : Int) := by omega
          cases al
          · -- a clause before was not true
            have HF : Hid (holdsB g (bitsM n b) = false) := Lib.hid (by
              rw [HE.out]
              cases h : g.all fun x => x.any (litT (bitsM n b))
              · rfl
              · rw [List.all_eq_true] at h
                have h2 := HAl.out
                rw [List.all_eq_false] at h2
                obtain ⟨x, hx, hx2⟩ := h2
                exact absurd (h x (List.mem_of_mem_take hx)) hx2)
            go_wp2_with fail
            go_roundw
            case rel => exact ⟨b + 1, by omega, by go_num, by trivial, by rw [HC1.out, HS.out, HF.out]; rfl⟩
            case measure => simp [intOf]; omega
          · obtain ⟨bb, off, a', cap', rfl, hc, _, _, hix⟩ := HI.out k hlt
            have hr := HR.out k hlt
            have HIx := Lib.hid hix; clear hix
            have HTk := Lib.hid (HT.out k hlt)
            generalize hx : g.getD k [] = x at *
            have HGX := Lib.hid hx; clear hx
            go_wp2_with fail
            go_loopw [9, 10] (fun so i wr => ∃ j : Nat, j ≤ x.length ∧ i = .int .i64 j ∧ w = wr ∧ so = .bool ((x.take j).any (litT (bitsM n b)))) (fun _ i _ => x.length - (intOf i).toNat)
            case atStart => exact ⟨0, Nat.zero_le _, rfl, rfl, rfl⟩
            case round =>
              obtain ⟨j, hj, rfl, rfl, rfl⟩ := hrel
              by_cases hjx : j < x.length
              · have HAj := Lib.hid (any_take_succ x 0 (litT (bitsM n b)) j hjx)
                generalize hso : (x.take j).any (litT (bitsM n b)) = so at *
                have HSo := Lib.hid hso; clear hso
                have hji : (j : Int) < (x.length : Int) := by omega
                cases so
                · obtain ⟨b2, off2, rfl, hcx⟩ := HIx.out j hjx
                  have hlb := HTk.out j hjx
                  have HLb := Lib.hid (litT_bits (b := b) hlb)
                  have hlb2 := lit_bds hlb
                  clear hlb
                  generalize hy : x.getD j 0 = l at *
                  have HY := Lib.hid hy; clear hy
                  rcases hlb2 with ⟨h1, h2⟩ | ⟨h1, h2⟩
                  · have h0 : 0 < l := by omega
                    have h3 : 0 ≤ l - 1 := by omega
                    have h4 : l ≤ 12 := by omega
                    go_wp2_with fail
                    rw [bit_up b _ (by omega), show l.toNat - 1 = l.natAbs - 1 by omega]
                    have HLb2 : Hid (litT (bitsM n b) l = b.testBit (l.natAbs - 1)) := Lib.hid (by rw [HLb.out, decide_eq_true h0]; simp)
                    go_roundw
                    case rel => exact ⟨j + 1, by omega, by go_num, by trivial, by rw [HAj.out, HLb2.out]; rfl⟩
                    case measure => simp [intOf]; omega
                  · have h0 : ¬ 0 < l := by omega
                    have h3 : 0 ≤ -l - 1 := by omega
                    have h4 : -12 ≤ l := by omega
                    go_wp2_with fail
                    rw [bit_down b _ (by omega), show (-l).toNat - 1 = l.natAbs - 1 by omega]
                    have HLb2 : Hid (litT (bitsM n b) l = !b.testBit (l.natAbs - 1)) := Lib.hid (by rw [HLb.out, decide_eq_false h0]; simp)
                    go_roundw
                    case rel => exact ⟨j + 1, by omega, by go_num, by trivial, by rw [HAj.out, HLb2.out]; rfl⟩
                    case measure => simp [intOf]; omega
                · -- a literal before was true
                  have HF : Hid (x.any (litT (bitsM n b)) = true) := Lib.hid (by
                    have h2 := HSo.out
                    rw [List.any_eq_true] at h2 ⊢
                    obtain ⟨y, hy, hy2⟩ := h2
                    exact ⟨y, List.mem_of_mem_take hy, hy2⟩)
                  go_wp2_with fail
                  go_roundw
                  case rel => exact ⟨k + 1, by omega, by go_num, by trivial, by rw [HA.out, HF.out]; rfl⟩
                  case measure => simp [intOf]; omega
              · have hjx2 : j = x.length := by omega
                have HF : Hid ((x.take j).any (litT (bitsM n b)) = x.any (litT (bitsM n b))) := Lib.hid (by rw [hjx2, List.take_length])
                generalize (x.take j).any (litT (bitsM n b)) = so at *
                go_wp2_with fail
                go_roundw
                case rel => exact ⟨k + 1, by omega, by go_num, by trivial, by rw [HA.out, HF.out]; rfl⟩
                case measure => simp [intOf]; omega
        · have hkg : k = g.length := by omega
          have HF : Hid ((g.take k).all (fun x => x.any (litT (bitsM n b))) = holdsB g (bitsM n b)) := Lib.hid (by rw [hkg, List.take_length, HE.out])
          generalize hal : (g.take k).all (fun x => x.any (litT (bitsM n b))) = al at *
          clear hal
          cases al
          · go_wp2_with fail
            go_roundw
            case rel => exact ⟨b + 1, by omega, by go_num, by trivial, by rw [HC1.out, HS.out, ← HF.out]; rfl⟩
            case measure => simp [intOf]; omega
          · go_wp2_with fail
            go_roundw
            case rel => exact ⟨b + 1, by omega, by go_num, by trivial, by rw [HC1.out, HS.out, ← HF.out]; simp⟩
            case measure => simp [intOf]; omega
    · have hbP : b = P := by omega
      have HR2 : Hid (cntTo n g P = cntTo n g b) := Lib.hid (by rw [hbP])
      have hbi : ¬ (b : Int) < (P : Int) := by omega
      go_wp2_with fail
      go_ret
      exact ⟨ret_int (by rw [HR2.out]), rfl⟩
set_option maxRecDepth 100000 in
theorem rModels_any (n : Int) (g : List (List Int)) (a : Option Addr) (cap : Nat) (w : World) (hin : RowsIn w a g) (hs : Short g) :
    Calls Try.prog 14 #[.int .i64 n, .slice a g.length cap] w fun e w' => e = .returned (.tuple #[.int .i64 (modN n g : Nat), .int .i64 (modE n g)]) ∧ w = w' := by
  have HV := Lib.hid (rValidate_any n g a cap w hin hs)
  have HC : Hid (validE n g = 0 → n ≤ 12 → Calls Try.prog 36 #[.int .i64 n, .slice a g.length cap] w fun e w' => e = .returned (.int .i64 (cntTo n.toNat g (2 ^ n.toNat) : Nat)) ∧ w = w') := Lib.hid fun h1 h2 => by
    have h := validE_ok h1
    have e : ((n.toNat : Nat) : Int) = n := by omega
    have := count_any n.toNat g a cap w hin hs (by omega) (by rw [e]; exact h.2.2)
    rwa [e] at this
  have hE1 : modN n g = if validE n g = 0 then (if n ≤ 12 then cntTo n.toNat g (2 ^ n.toNat) else 0) else 0 := rfl
  have hE2 : modE n g = if validE n g = 0 then (if n ≤ 12 then 0 else 3) else validE n g := rfl
  rw [hE1, hE2]
  clear hin hE1 hE2 hs
  generalize validE n g = e at *
  generalize cntTo n.toNat g (2 ^ n.toNat) = c at *
  generalize g.length = p at *
  go_enter Try.func14, Try.ntmps14
  go_wp2_with fail
  refine HV.out.mono ?_; rintro e w2 ⟨rfl, rfl⟩
  by_cases he : e = 0
  · subst he
    by_cases hn : n ≤ 12
    · have HC2 := Lib.hid (HC.out rfl hn)
      go_wp2_with fail
      refine HC2.out.mono ?_; rintro e w3 ⟨rfl, rfl⟩
      go_wp2_with fail
      go_ret2
      exact ⟨rfl, rfl⟩
    · go_wp2_with fail
      go_ret2
      exact ⟨rfl, rfl⟩
  · have he' : (e != 0) = true := by simpa using he
    go_wp2_with fail
    go_ret2
    exact ⟨rfl, rfl⟩
end Go.Proofs.Ytahaoddilejpnaa
