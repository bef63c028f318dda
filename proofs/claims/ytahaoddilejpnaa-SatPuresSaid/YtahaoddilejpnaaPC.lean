/- Pure of the document. -/
import Derived.Test.YtahaoddilejpnaaPB
import Derived.Test.YtahaoddilejpnaaHQ
namespace Go.Proofs.Ytahaoddilejpnaa
open Go.RowKit

theorem occ_succ (g : List (List Int)) (k : Nat) (hk : k < g.length) (y : Int) : occB (g.take (k + 1)) y = (occB (g.take k) y || hasB (g.getD k []) y) := any_take_succ g [] (fun x => hasB x y) k hk
theorem has_succ (x : List Int) (m : Nat) (hm : m < x.length) (y : Int) : hasB (x.take (m + 1)) y = (hasB (x.take m) y || (x.getD m 0 == y)) := any_take_succ x 0 (fun z => z == y) m hm
set_option maxRecDepth 100000 in
set_option maxHeartbeats 4000000 in
theorem rPure_any (n : Int) (g : List (List Int)) (a : Option Addr) (cap : Nat) (w : World) (hin : RowsIn w a g) (hs : Short g) :
    Calls Try.prog 26 #[.int .i64 n, .slice a g.length cap] w fun e w' => (∃ z, e = .returned (.tuple #[z, .int .i64 (validE n g)]) ∧ w'.ownsRow w.heap.size 3 1 z (pureR n g).length (encI (pureR n g))) ∧ Below w.heap.size w w' := by
  have HV := Lib.hid (rValidate_any n g a cap w hin hs)
  have hE2 : pureR n g = if validE n g = 0 then pureL n.toNat g else [] := rfl
  rw [hE2]
  by_cases he : validE n g = 0
  rotate_left
  · have he' : (validE n g != 0) = true := by simpa using he
    rw [if_neg he]
    clear hin hE2 hs
    generalize validE n g = e at *
    generalize g.length = p at *
    go_enter Try.func26, Try.ntmps26
    go_wp2_with fail
    refine HV.out.mono ?_; rintro e w2 ⟨rfl, rfl⟩
    go_wp2_with fail
    go_ret2
    exact ⟨⟨_, rfl, owns_nil _ _ _ _⟩, Below.refl _ _⟩
  have hok := validE_ok he
  rw [if_pos he]
  rw [he] at HV ⊢
  have HI := Lib.hid hin; have HR := Lib.hid hs.row; have hl := hs.len
  have HT := Lib.hid hok.2.2
  obtain ⟨N, rfl⟩ : ∃ N : Nat, n = N := ⟨n.toNat, by omega⟩
  have hN : N ≤ 4000 := by omega
  rw [Int.toNat_natCast]
  obtain ⟨M, hM⟩ : ∃ M : Nat, M = 2 * N + 1 := ⟨_, rfl⟩
  have hMi : 2 * (N : Int) + 1 = (M : Int) := by omega
  have hP : pureL N g = (span N M).filter (pureB g) := by rw [hM]; rfl
  have HP := Lib.hid hP
  have HMh := Lib.hid hM
  rw [hP]
  clear hin hE2 hs he hok hP hM
  obtain ⟨i0, hi, ip0, ip1, ip2⟩ := info_parts Try.infoInt
  have hMb : M ≤ 8001 := by omega
  have hmk : ∀ w0 : World, (Instr.makeSlice 25 (.int .i64 (M : Int)) (.int .i64 (M : Int))).run Try.prog w0 = .ok (.slice (some ⟨w0.heap.size, 0, none⟩) M M) (w0.alloc (.cells (madeCells #[.bool false] M) 4)) := fun w0 => run_make_row' (P := Try.prog) 25 4 (.bool false) 1 Try.underlying25 Try.infoBool rfl .i64 .i64 M (by omega) (by omega) w0
  have hb3 : Below w.heap.size w (w.alloc (.cells (madeCells #[.bool false] M) 4)) := (Below.refl _ w).alloc (Nat.le_refl _) _
  have hr3 : BRow (w.alloc (.cells (madeCells #[.bool false] M) 4)) w.heap.size M (fun _ => false) := by
    unfold BRow
    rw [heap_at _ _ _ rfl, boolArr_made]
  have HB3 := Lib.hid hb3; have HR3 := Lib.hid hr3
  clear hb3 hr3
  have HO0 : Hid (∀ y, occB (g.take 0) y = false) := Lib.hid fun y => rfl
  have HRes : Hid (g.take g.length = g) := Lib.hid List.take_length
  go_enter Try.func26, Try.ntmps26
  go_wp2_with fail
  refine HV.out.mono ?_; rintro e w2 ⟨rfl, rfl⟩
  go_wp2_with fail
  generalize w.alloc (.cells (madeCells #[.bool false] M) 4) = w3 at *
  go_loopw [8] (fun i wr => ∃ k : Nat, k ≤ g.length ∧ i = .int .i64 k ∧ Below w.heap.size w wr ∧ ∃ f, BRow wr w.heap.size M f ∧ ∀ j, j < M → f j = occB (g.take k) ((j : Int) - N)) (fun i _ => g.length - (intOf i).toNat)
  case atStart => exact ⟨0, Nat.zero_le _, rfl, HB3.out, _, HR3.out, fun j _ => by rw [HO0.out]⟩
  case round =>
    obtain ⟨k, hk, rfl, hbw, f, hrow, hf⟩ := hrel
    have HBw := Lib.hid hbw; have HRow := Lib.hid hrow; have HF := Lib.hid hf
    clear hrow hf
    by_cases hlt : k < g.length
    · obtain ⟨b, off, a', cap', rfl, hc0, _, _, hix⟩ := HI.out k hlt
      have hc := keep hc0 hbw
      have hr := HR.out k hlt
      have HIx : Hid (IntsIn w a' (g.getD k [])) := Lib.hid hix
      have HC0 := Lib.hid hc0
      have HTk := Lib.hid (HT.out k hlt)
      have HOc := Lib.hid (occ_succ g k hlt)
      clear hix hbw hc0
      generalize hx : g.getD k [] = x at *
      clear hx
      generalize wr = w4 at *
      go_wp2_with fail
      clear hc
      go_loopw [9] (fun i ws => ∃ m : Nat, m ≤ x.length ∧ i = .int .i64 m ∧ Below w.heap.size w ws ∧ ∃ f, BRow ws w.heap.size M f ∧ ∀ j, j < M → f j = (occB (g.take k) ((j : Int) - N) || hasB (x.take m) ((j : Int) - N))) (fun i _ => x.length - (intOf i).toNat)
      case atStart => exact ⟨0, Nat.zero_le _, rfl, HBw.out, f, HRow.out, fun j hj => by rw [HF.out j hj]; simp [hasB]⟩
      case round =>
        obtain ⟨m, hm, rfl, hbs, f, hrow, hf⟩ := hrel
        have hc := keep HC0.out hbs
        have HBs := Lib.hid hbs; have HRw := Lib.hid hrow; have HFf := Lib.hid hf
        by_cases hmx : m < x.length
        · obtain ⟨b2, off2, rfl, hcx⟩ := HIx.out.below hbs m hmx
          have hlb := lit_bds (HTk.out m hmx)
          have HS := Lib.hid (has_succ x m hmx)
          clear hbs hrow hf
          generalize x.getD m 0 = l at *
          have h1 : 0 ≤ l + (N : Int) := by omega
          have h2 : l + (N : Int) < (M : Int) := by omega
          have hfr := HRw.out.free (l + (N : Int)).toNat
          have hcl := HRw.out.cell (k := (l + (N : Int)).toNat) (by omega)
          have h3 : -4000 ≤ l := by omega
          have h4 : l ≤ 4000 := by omega
          have HMl : Hid (∀ j : Nat, (l + (N : Int)).toNat = j ↔ l = (j : Int) - N) := Lib.hid fun j => by omega
          clear hlb
          generalize f (l + (N : Int)).toNat = fl at *
          go_wp2_with fail
          go_roundw
          case rel => exact ⟨m + 1, by omega, by go_num, below_set HBs.out (Nat.le_refl _), _, HRw.out.set _ true, fun j hj => by
            rw [HS.out]
            by_cases e : (l + (N : Int)).toNat = j
            · rw [← e, updF_at, e]
              have := (HMl.out j).1 e
              rw [← this]; simp
            · rw [updF_ne (fun h => e h.symm), HFf.out j hj]
              have : (l == (j : Int) - N) = false := by
                simp only [beq_eq_false_iff_ne]
                exact fun h => e ((HMl.out j).2 h)
              rw [this, Bool.or_false]⟩
          case measure => simp [intOf]; omega
        · have hmx2 : m = x.length := by omega
          clear hbs hrow hf
          go_wp2_with fail
          go_roundw
          case rel => exact ⟨k + 1, by omega, by go_num, HBs.out, f, HRw.out, fun j hj => by
            rw [HFf.out j hj, HOc.out, hmx2, List.take_length]⟩
          case measure => simp [intOf]; omega
    · have hkg : k = g.length := by omega
      have HF2 : Hid (∀ j, j < M → f j = occB g ((j : Int) - N)) := Lib.hid fun j hj => by rw [HF.out j hj, hkg, HRes.out]
      clear hbw
      have hkg2 : ¬ k < g.length := by omega
      clear hkg
      generalize wr = w4 at *
      have hw4 := HRow.out.lt
      have HW4 := Lib.hid hw4
      go_wp2_with fail
      go_loopw [10, 11] (fun z i wr => ∃ k : Nat, k ≤ M ∧ i = .int .i64 ((k : Int) - N) ∧ wr.ownsRow w4.heap.size 3 1 z ((span N k).filter (pureB g)).length (encI ((span N k).filter (pureB g))) ∧ Below w4.heap.size w4 wr) (fun _ i _ => M - (intOf i + N).toNat)
      case atStart => exact ⟨0, Nat.zero_le _, by simp, owns_nil _ _ _ _, Below.refl _ _⟩
      case round =>
        obtain ⟨k, hk, rfl, hown, hb⟩ := hrel
        obtain ⟨va, vc, rfl⟩ := owns_shape hown
        have HO := Lib.hid hown; have HBr := Lib.hid hb
        have HRr := Lib.hid (HRow.out.below hb)
        have hfl := filter_len (span N k) (pureB g)
        rw [show (span N k).length = k by simp [span]] at hfl
        clear hown hb
        by_cases hkM : k < M
        · have HFs : Hid ((span N (k + 1)).filter (pureB g) = if pureB g ((k : Int) - N) then (span N k).filter (pureB g) ++ [(k : Int) - N] else (span N k).filter (pureB g)) := Lib.hid (by
            rw [span_succ, List.filter_append]
            by_cases h : pureB g ((k : Int) - N) <;> simp [h])
          generalize hf1 : (span N (k + 1)).filter (pureB g) = f1 at *
          have HF1 := Lib.hid hf1; clear hf1
          generalize (span N k).filter (pureB g) = f0 at *
          have hc1 := HRr.out.cell (k := k) hkM
          have hc2 := HRr.out.cell (k := 2 * N - k) (by omega)
          rw [HF2.out k hkM] at hc1
          rw [HF2.out (2 * N - k) (by omega)] at hc2
          obtain ⟨l, hl⟩ : ∃ l, l = (k : Int) - N := ⟨_, rfl⟩
          rw [show (((2 * N - k : Nat) : Int) - N) = -l by omega] at hc2
          have e1 : k = (l + (N : Int)).toNat := by omega
          have e2 : 2 * N - k = ((N : Int) - l).toNat := by omega
          rw [e2] at hc2
          rw [← hl] at hc1 HFs ⊢
          have hc1' : wr.cell? ⟨w.heap.size, (l + (N : Int)).toNat, none⟩ = some (.bool (occB g l)) := by rw [← e1]; exact hc1
          have HK1 : Hid ((.int .i64 (l + 1) : Value) = .int .i64 (((k + 1 : Nat) : Int) - N)) := Lib.hid (by congr 1; omega)
          have HK2 : Hid (M - (l + 1 + N).toNat < M - (l + N).toNat) := Lib.hid (by omega)
          have b1 : 0 ≤ l + (N : Int) := by omega
          have b2 : l + (N : Int) < (M : Int) := by omega
          have b3 : 0 ≤ (N : Int) - l := by omega
          have b4 : (N : Int) - l < (M : Int) := by omega
          have b5 : l ≤ (N : Int) := by omega
          have b6 : -4000 ≤ l := by omega
          have b7 : l ≤ 4000 := by omega
          have hf0 : f0.length ≤ 8001 := by omega
          have HPB : Hid (pureB g l = (l != 0 && occB g l && !occB g (-l))) := Lib.hid rfl
          clear hc1 e1 e2 hl hfl
          generalize occB g l = o1 at *
          generalize occB g (-l) = o2 at *
          generalize pureB g l = pb at *
          by_cases hl0 : l = 0
          · have hl1 : (l != 0) = false := by simpa using hl0
            have HL1 := Lib.hid hl1
            clear hl0
            have HF3 : Hid (f1 = f0) := Lib.hid (by rw [HFs.out, HPB.out]; rw [HL1.out]; rfl)
            go_wp2_with fail
            go_roundw
            case rel => exact ⟨k + 1, by omega, HK1.out, by rw [HF1.out, HF3.out]; exact HO.out, HBr.out⟩
            case measure => exact HK2.out
          · have hl1 : (l != 0) = true := by simpa using hl0
            have HL1 := Lib.hid hl1
            clear hl0
            cases o1
            · have HF3 : Hid (f1 = f0) := Lib.hid (by rw [HFs.out, HPB.out]; rw [HL1.out]; rfl)
              go_wp2_with fail
              go_roundw
              case rel => exact ⟨k + 1, by omega, HK1.out, by rw [HF1.out, HF3.out]; exact HO.out, HBr.out⟩
              case measure => exact HK2.out
            · cases o2
              · have HF3 : Hid (f1 = f0 ++ [l]) := Lib.hid (by rw [HFs.out, HPB.out, HL1.out]; rfl)
                have HN6 := Lib.hid (cell_one_at wr (.int .i64 l) 3)
                have HO6 := Lib.hid (HO.out.alloc (.cells #[.int .i64 l] 3))
                have HB6 := Lib.hid (HBr.out.alloc HBr.out.size (.cells #[.int .i64 l] 3))
                have HS63 : Hid (f0.length + 1 ≤ maxLen) := Lib.hid (by unfold maxLen; omega)
                have HSb : Hid ((f0.length + 1) * 8 ≤ 140737488355328) := Lib.hid (by omega)
                have HZ6 : Hid (w4.heap.size ≤ (wr.alloc (.cells #[.int .i64 l] 3)).heap.size) := Lib.hid HB6.out.size
                go_wp2_with (first | (at_builtin; refine wpList_append_own_at _ rfl _ _ 40 rfl w4.heap.size 3 i0 (.int .i64 0) 1 8 Try.underlying40 hi ip0 ip1 ip2 rfl (by decide) _ _ _ rfl HO6.out ⟨wr.heap.size, 0, none⟩ 1 1 [.int .i64 l] rfl rfl HN6.out (one_int _) HS63.out HSb.out HZ6.out ?_; intro v9 w9 hown9 hgrow9 _ _; obtain ⟨v9a, v9c, rfl⟩ := owns_shape hown9; have HO9 := Lib.hid hown9; have HB9 := Lib.hid (HB6.out.grown hgrow9 HZ6.out (fun g hg => (owns_lt HO.out hg).1)); clear hown9 hgrow9))
                go_roundw
                case rel => exact ⟨k + 1, by omega, HK1.out, by rw [HF1.out, HF3.out, List.length_append, encI_snoc]; exact HO9.out, HB9.out⟩
                case measure => exact HK2.out
              · have HF3 : Hid (f1 = f0) := Lib.hid (by rw [HFs.out, HPB.out]; rw [HL1.out]; rfl)
                go_wp2_with fail
                go_roundw
                case rel => exact ⟨k + 1, by omega, HK1.out, by rw [HF1.out, HF3.out]; exact HO.out, HBr.out⟩
                case measure => exact HK2.out
        · have hkM2 : k = M := by omega
          subst hkM2
          have hMh := HMh.out
          have b1 : (N : Int) < (k : Int) - N := by omega
          clear hfl
          generalize hf0 : (span N k).filter (pureB g) = f0 at *
          have HF0 := Lib.hid hf0; clear hf0
          generalize (k : Int) - N = l at *
          go_wp2_with fail
          go_ret2
          exact ⟨⟨_, rfl, by rw [HF0.out]; exact owns_base HO.out (Nat.le_of_lt HW4.out)⟩, HBw.out.trans (HBr.out.mono (Nat.le_of_lt HW4.out))⟩
end Go.Proofs.Ytahaoddilejpnaa
