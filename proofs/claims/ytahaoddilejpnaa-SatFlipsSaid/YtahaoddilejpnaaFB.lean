/- Flip of the program. -/
import Derived.Test.YtahaoddilejpnaaFA
namespace Go.Proofs.Ytahaoddilejpnaa
open Go.RowKit

theorem below_set' {B q j : Nat} {w w' : World} {x : Value} (h : Below B w w') (hq : B ≤ q) : Below B w (w'.setCell ⟨q, j, none⟩ x) :=
  ⟨h.os, h.tape, h.output, by have := h.size; simpa [World.setCell] using this, fun k hk => by rw [Below.heap_setCell _ _ _ _ (show k ≠ q by omega)]; exact h.block k hk⟩
set_option maxRecDepth 100000 in
set_option maxHeartbeats 4000000 in
theorem sFlip_any (n v : Int) (g : List (List Int)) (a : Option Addr) (cap : Nat) (w : World) (hin : RowsIn w a g) (hs : Short g) :
    Calls Try.prog 19 #[.int .i64 n, .slice a g.length cap, .int .i64 v] w fun e w' => (∃ z, e = .returned (.tuple #[z, .int .i64 (flipE n g v)]) ∧ RowsOwn w' w.heap.size z (flipR n g v)) ∧ Below w.heap.size w w' := by
  have HV := Lib.hid (sValidate_any n g a cap w hin hs)
  have HI := Lib.hid hin; have HR := Lib.hid hs.row; have hl := hs.len
  have hE1 : flipE n g v = if validE n g = 0 then (if v < 1 ∨ n < v then 1 else 0) else validE n g := rfl
  have hE2 : flipR n g v = if validE n g = 0 then (if v < 1 ∨ n < v then [] else flipL v g) else [] := rfl
  have HL : Hid (validE n g = 0 → 0 ≤ n ∧ n ≤ 4000) := Lib.hid fun h => ⟨(validE_ok h).1, (validE_ok h).2.1⟩
  have HLt : Hid (validE n g = 0 → Lits n g) := Lib.hid fun h => (validE_ok h).2.2
  rw [hE1, hE2]
  clear hin hE1 hE2 hs
  generalize validE n g = e at *
  by_cases he : e = 0
  rotate_left
  · have he' : (e != 0) = true := by simpa using he
    rw [if_neg he, if_neg he]
    clear HI HR
    generalize g.length = p at *
    go_enter Try.func19, Try.ntmps19
    go_wp2_with fail
    refine HV.out.mono ?_; rintro e w2 ⟨rfl, hb2⟩
    go_wp2_with fail
    go_ret2
    exact ⟨⟨_, rfl, RowsOwn.nil _ _⟩, hb2⟩
  subst he
  have hn := HL.out rfl
  have HT := Lib.hid (HLt.out rfl)
  obtain ⟨hn0, hn4⟩ := hn
  rw [if_pos rfl, if_pos rfl]
  clear HL HLt
  by_cases hv1 : v < 1
  · rw [if_pos (.inl hv1), if_pos (.inl hv1)]
    clear HI HR HT
    generalize g.length = p at *
    go_enter Try.func19, Try.ntmps19
    go_wp2_with fail
    refine HV.out.mono ?_; rintro e w2 ⟨rfl, hb2⟩
    go_wp2_with fail
    go_ret2
    exact ⟨⟨_, rfl, RowsOwn.nil _ _⟩, hb2⟩
  by_cases hv2 : n < v
  · rw [if_pos (.inr hv2), if_pos (.inr hv2)]
    clear HI HR HT
    generalize g.length = p at *
    go_enter Try.func19, Try.ntmps19
    go_wp2_with fail
    refine HV.out.mono ?_; rintro e w2 ⟨rfl, hb2⟩
    go_wp2_with fail
    go_ret2
    exact ⟨⟨_, rfl, RowsOwn.nil _ _⟩, hb2⟩
  have hnv : ¬ (v < 1 ∨ n < v) := by omega
  rw [if_neg hnv, if_neg hnv]
  clear hnv
  obtain ⟨j0, hj, jp0, jp1, jp2⟩ := info_parts Try.infoRow
  have HRes : Hid (flipL v (g.take g.length) = flipL v g) := Lib.hid (by rw [List.take_length])
  have hv3 : 1 ≤ v := by omega
  go_enter Try.func19, Try.ntmps19
  go_wp2_with fail
  refine HV.out.mono ?_; rintro e w2 ⟨rfl, hb2⟩
  have HB2 := Lib.hid hb2
  clear hb2
  go_wp2_with fail
  go_loopw [9, 30] (fun z i wr => ∃ k : Nat, k ≤ g.length ∧ i = .int .i64 k ∧ RowsOwn wr w.heap.size z (flipL v (g.take k)) ∧ Below w.heap.size w wr) (fun _ i _ => g.length - (intOf i).toNat)
  case atStart => exact ⟨0, Nat.zero_le _, rfl, RowsOwn.nil _ _, HB2.out⟩
  case round =>
    obtain ⟨k, hk, rfl, hro, hb⟩ := hrel
    obtain ⟨oa, oc, rfl⟩ := hro.shape
    have HRo := Lib.hid hro; have HB := Lib.hid hb
    clear hro
    by_cases hlt : k < g.length
    · obtain ⟨b, off, a', cap', rfl, hc, _, h0n, hix⟩ := HI.out.below hb k hlt
      have hr := HR.out k hlt
      have HCl := Lib.hid (clone_any (g.getD k []) a' cap' wr hix h0n (by omega))
      have HTk := Lib.hid (HT.out k hlt)
      have HS := Lib.hid (flip_succ v g k hlt)
      have hLn := Nat.le_of_eq (flip_len v (g.take k))
      rw [List.length_take] at hLn
      clear hix hb h0n
      generalize hL1 : flipL v (g.take (k + 1)) = L1 at *
      have HL1 := Lib.hid hL1; clear hL1
      generalize flipL v (g.take k) = L at *
      generalize g.getD k [] = x at *
      have hL2 : L.length ≤ 1000 := by omega
      clear hLn
      generalize wr = w1 at *
      go_wp2_with fail
      refine HCl.out.mono ?_; rintro e w5 ⟨⟨v5, rfl, hown5⟩, hb5⟩
      obtain ⟨va, vc, rfl⟩ := owns_shape hown5
      have HO5 := Lib.hid hown5; have HB5 := Lib.hid hb5
      clear hown5 hb5
      go_wp2_with fail
      go_loopw [38] (fun i ws => ∃ j : Nat, j ≤ x.length ∧ i = .int .i64 j ∧ ws.ownsRow w1.heap.size 3 1 (.slice va x.length vc) x.length (encI (mixL (flipI v) x j)) ∧ Below w1.heap.size w1 ws) (fun i _ => x.length - (intOf i).toNat)
      case atStart => exact ⟨0, Nat.zero_le _, rfl, by rw [mix_zero]; exact HO5.out, HB5.out⟩
      case round =>
        obtain ⟨j, hj', rfl, hown, hbs⟩ := hrel
        by_cases hjx : j < x.length
        · obtain ⟨q, qc, e, hqc, _, hq1, _, hcell, hfr⟩ := owns_cells hown (by omega)
          simp only [Value.slice.injEq, true_and] at e
          obtain ⟨rfl, rfl⟩ := e
          have hcx := hcell j _ (encI_get (by rw [mix_len]; exact hjx))
          rw [mix_at _ _ _ hjx] at hcx
          have hfj := hfr j
          have HM := Lib.hid (mix_succ (flipI v) x j hjx)
          have HM2 := Lib.hid (mix_same (flipI v) x j hjx)
          have hyb := lit_bds (HTk.out j hjx)
          have HO := Lib.hid hown; have HBs := Lib.hid hbs; have HQ := Lib.hid hq1
          clear hcell hfr hown hbs hq1
          generalize x.getD j 0 = y at *
          generalize hm1 : mixL (flipI v) x (j + 1) = m1 at *
          have HM1 := Lib.hid hm1; clear hm1
          generalize mixL (flipI v) x j = m0 at *
          have hy1 : -4000 ≤ y := by omega
          have hy2 : y ≤ 4000 := by omega
          have HA := Lib.hid (abs_lit y wr (by omega))
          clear hyb
          by_cases hyv : y = v ∨ y = -v
          · have hab : (((y.natAbs : Nat) : Int) == v) = true := by simp; omega
            have HF : Hid (flipI v y = -y) := Lib.hid (if_pos hyv)
            clear hyv
            go_wp2_with fail
            refine HA.out.mono ?_; rintro e w6 ⟨rfl, rfl⟩
            go_wp2_with fail
            go_roundw
            case rel => exact ⟨j + 1, by omega, by go_num, by rw [HM1.out, HM.out, HF.out, encI_set]; exact owns_set HO.out j _, below_set' HBs.out HQ.out⟩
            case measure => simp [intOf]; omega
          · have hab : (((y.natAbs : Nat) : Int) == v) = false := by simp; omega
            have HF : Hid (flipI v y = y) := Lib.hid (if_neg hyv)
            clear hyv
            go_wp2_with fail
            refine HA.out.mono ?_; rintro e w6 ⟨rfl, rfl⟩
            go_wp2_with fail
            go_roundw
            case rel => exact ⟨j + 1, by omega, by go_num, by rw [HM1.out, HM2.out HF.out]; exact HO.out, HBs.out⟩
            case measure => simp [intOf]; omega
        · have hjx2 : j = x.length := by omega
          rw [hjx2, mix_end] at hown
          have hfl : (x.map (flipI v)).length = x.length := by rw [List.length_map]
          rw [← hfl] at hown
          have hro := HRo.out.below hbs
          obtain ⟨vals, hov, hra⟩ := hro
          have HOv := Lib.hid hov; have HRa := Lib.hid hra
          have HO := Lib.hid hown; have HBs := Lib.hid hbs; have HFl := Lib.hid hfl
          clear hov hra hown hbs hfl
          have HN6 := Lib.hid (cell_one_at wr (.slice va x.length vc) 40)
          have HO6 := Lib.hid (HOv.out.alloc (.cells #[.slice va x.length vc] 40))
          have HBw := Lib.hid ((HB.out.trans (HBs.out.mono HB.out.size)).alloc (Nat.le_trans HB.out.size HBs.out.size) (.cells #[.slice va x.length vc] 40))
          have HS63 : Hid (L.length + 1 ≤ maxLen) := Lib.hid (by unfold maxLen; omega)
          have HSb : Hid ((L.length + 1) * 24 ≤ 140737488355328) := Lib.hid (by omega)
          have HZ6 : Hid (w.heap.size ≤ (wr.alloc (.cells #[.slice va x.length vc] 40)).heap.size) := Lib.hid HBw.out.size
          clear hc
          go_wp2_with (first | (at_builtin; refine wpList_append_own_at _ rfl _ _ 22 rfl w.heap.size 40 j0 (.slice none 0 0) 1 24 Try.underlying22 hj jp0 jp1 jp2 rfl (by decide) _ _ _ rfl HO6.out ⟨wr.heap.size, 0, none⟩ 1 1 [.slice va x.length vc] rfl rfl HN6.out (by simp [Value.oneCell']) HS63.out HSb.out HZ6.out ?_; intro v9 w9 hown9 hgrow9 _ hat9; have HO9 := Lib.hid hown9; have HG9 := Lib.hid hgrow9; have HA9 := Lib.hid hat9; clear hown9 hgrow9 hat9))
          go_roundw
          case rel =>
            have hov := HOv.out
            refine ⟨k + 1, by omega, by go_num, ?_, HBw.out.grown HG9.out HZ6.out (fun g hg => (owns_lt hov hg).1)⟩
            rw [HL1.out, HS.out]
            exact RowsOwn.snoc_own (f := x.map (flipI v)) hov HRa.out (fun g hg => by
              obtain ⟨vals0, hov0, _⟩ := HRo.out
              exact (owns_lt hov0 hg).2) HB.out.size HO.out (by rw [HFl.out]; exact HO9.out) HG9.out HA9.out
          case measure => simp [intOf]; omega
    · obtain rfl : k = g.length := by omega
      go_wp2_with fail
      go_ret2
      exact ⟨⟨_, rfl, by rw [← HRes.out]; exact HRo.out⟩, HB.out⟩
end Go.Proofs.Ytahaoddilejpnaa
