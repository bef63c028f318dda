/- The walk of the document's Rename. -/
import Derived.Test.YtmljmmnofhhheaaN2
namespace Go.Proofs.Ytmljmmnofhhheaa
open Go.RowKit

/-- The places taken by the first k. -/
def takenS (to : List Int) (k : Nat) : NSet := fun j => (List.range k).any fun i => to.getD i 0 == (j : Int)
theorem takenS_zero (to : List Int) : takenS to 0 = fun _ => false := rfl
theorem takenS_iff {to : List Int} {k j : Nat} : takenS to k j = true ↔ ∃ i, i < k ∧ to.getD i 0 = (j : Int) := by
  unfold takenS
  rw [List.any_eq_true]
  constructor
  · rintro ⟨i, hi, e⟩
    exact ⟨i, by simpa using hi, by simpa using e⟩
  · rintro ⟨i, hi, e⟩
    exact ⟨i, by simpa using hi, by simpa using e⟩
theorem takenS_next {to : List Int} {k z : Nat} (h : to.getD k 0 = (z : Int)) : mark (takenS to k) z = takenS to (k + 1) := by
  funext j
  rw [Bool.eq_iff_iff, takenS_iff]
  constructor
  · intro hj
    rcases mark_cases hj with c | rfl
    · obtain ⟨i, hi, e⟩ := takenS_iff.1 c
      exact ⟨i, by omega, e⟩
    · exact ⟨k, by omega, h⟩
  · rintro ⟨i, hi, e⟩
    by_cases c : i = k
    · subst c
      have : j = z := by omega
      subst this
      exact mark_self _ _
    · exact mark_of (takenS_iff.2 ⟨i, by omega, e⟩)
theorem Save.vrow {p q n : Nat} {w w' : World} {f : Nat → Value} (h : Save p w w') (hq : q ≠ p) (hV : VRow w q n f) : VRow w' q n f := by
  unfold VRow; rw [h.block q hV.lt hq]; exact hV
theorem run_make_bools (n : Nat) (h : n ≤ 10) (w : World) : (Instr.makeSlice 59 (.int .i64 (n : Int)) (.int .i64 (n : Int))).run Try.prog w = .ok (.slice (some ⟨w.heap.size, 0, none⟩) n n) (w.alloc (.cells (madeCells #[.bool false] n) 4)) :=
  run_make_row' (P := Try.prog) 59 4 (.bool false) 1 Try.underlying59 Try.infoBool rfl .i64 .i64 n (by omega) (by omega) w
theorem run_make_rows (n : Nat) (h : n ≤ 10) (w : World) : (Instr.makeSlice 22 (.int .i64 (n : Int)) (.int .i64 (n : Int))).run Try.prog w = .ok (.slice (some ⟨w.heap.size, 0, none⟩) n n) (w.alloc (.cells (madeCells #[.slice none 0 0] n) 32)) :=
  run_make_row' (P := Try.prog) 22 32 (.slice none 0 0) 24 Try.underlying22 Try.infoRow rfl .i64 .i64 n (by omega) (by omega) w

set_option maxRecDepth 100000 in
set_option maxHeartbeats 4000000 in
theorem rRename_any (g : List (List Int)) (ga : Option Addr) (cap : Nat) (to : List Int) (ta : Option Addr) (tcap : Nat) (w : World) (hin : RowsIn w ga g) (hs : Short g) (ht : IntsIn w ta to) :
    Calls Try.prog 32 #[.slice ga g.length cap, .slice ta to.length tcap] w (RowsPost (renE g to) (renL g to) w) := by
  have HV := Lib.hid (rValidate_any g ga cap w hin hs)
  by_cases hv : validE g = 0
  · have ok := valid_ok hv
    have h10 : g.length ≤ 10 := by have := ok.ten; rwa [gN_len] at this
    have hpos : 0 < g.length := by have := ok.pos; rwa [gN_len] at this
    by_cases hhead : to.length = g.length ∧ to.getD 0 0 = 0
    · obtain ⟨hlen, h0⟩ := hhead
      rw [← hlen] at h10 hpos
      have hG := hin.graph hv
      have HGr := Lib.hid hG
      have HTo := Lib.hid ht
      have HNo : Hid (¬ Once to to.length to.length → renE g to = 1 ∧ renL g to = []) := Lib.hid fun h => renE_not hv (by
        rw [← Bool.not_eq_true, permB_iff]
        exact fun c => h (all_once rfl (by rw [hlen]; exact c.2.2)))
      have HYes : Hid (Once to to.length to.length → renE g to = 0 ∧ renL g to = (List.range to.length).map (renI g to)) := Lib.hid fun h => by
        have hall := once_all rfl h
        rw [hlen] at hall ⊢
        exact renE_yes hv (permB_iff.2 ⟨hlen, h0, hall⟩)
      have HRen : Hid (∀ v i, posOf to v = i → renI g to v = (succ (gN g) i).map fun x => to.getD x 0) := Lib.hid fun v i h => by unfold renI; rw [h]
      have HFit : Hid (∀ v x, x ∈ succ (gN g) v → x < to.length) := Lib.hid fun v x hx => by have := ok.fits v x hx; rwa [gN_len, ← hlen] at this
      have HDeg : Hid (∀ v, (succ (gN g) v).length ≤ 2) := Lib.hid ok.deg
      have HGl : Hid (∀ i, i < to.length → i < (gN g).length) := Lib.hid fun i hi => by rw [gN_len, ← hlen]; exact hi
      rw [hv] at HV
      rw [← hlen] at HV ⊢
      obtain ⟨tb, toff, rfl, hc0⟩ := ht 0 hpos
      rw [h0, Nat.add_zero] at hc0
      have HC0 := Lib.hid hc0
      have hc1 := hc0
      clear hc0 ht hin hs hv ok hlen h0 hG
      generalize renE g to = E at *
      generalize renL g to = L at *
      generalize renI g to = RI at *
      generalize gN g = G at *
      generalize hn : to.length = n at *
      have hmk1 := run_make_rows n h10
      have hmk2 := run_make_bools n h10
      have hni : (0 : Int) < (n : Int) := by omega
      obtain ⟨i0, hi, hz0, hz1, hz2⟩ := info_parts Try.infoInt
      have HN := Lib.hid hn
      clear hn
      go_enter Try.func32, Try.ntmps32
      go_wp2_with fail
      refine HV.out.mono ?_; rintro e w1 ⟨rfl, rfl⟩
      go_wp2_with fail
      have hrow0 : VRow ((w.alloc (.cells (madeCells #[.slice none 0 0] n) 32)).alloc (.cells (madeCells #[.bool false] n) 4)) w.heap.size n (fun _ => .slice none 0 0) := by
        rw [valArr_made]; exact VRow.alloc (show VRow _ _ _ _ from heap_at _ _ _ rfl) _
      have hrow1 : BRow ((w.alloc (.cells (madeCells #[.slice none 0 0] n) 32)).alloc (.cells (madeCells #[.bool false] n) 4)) (w.heap.size + 1) n (takenS to 0) := by
        rw [takenS_zero, boolArr_made]; exact heap_at _ _ _ (by simp)
      have hbl0 : Below w.heap.size w ((w.alloc (.cells (madeCells #[.slice none 0 0] n) 32)).alloc (.cells (madeCells #[.bool false] n) 4)) := ((Below.refl _ _).alloc (Nat.le_refl _) _).alloc (by simp) _
      generalize hw2 : (w.alloc (.cells (madeCells #[.slice none 0 0] n) 32)).alloc (.cells (madeCells #[.bool false] n) 4) = w2 at *
      generalize hq : w.heap.size = q at *
      have HQ := Lib.hid hq
      have HR0 := Lib.hid hrow0; have HR1 := Lib.hid hrow1; have HB2 := Lib.hid hbl0
      clear hw2 hq hrow0 hrow1 hbl0 hmk1 hmk2 hc1
      have HToC : Hid (∀ w' x, x < n → Below q w w' → w'.cell? ⟨tb, toff + x, none⟩ = some (.int .i64 (to.getD x 0))) := Lib.hid fun w' x hx hb => by
        obtain ⟨tb', toff', e, hc'⟩ := (HTo.out.below (by rw [HQ.out]; exact hb)) x (by rw [HN.out]; exact hx)
        simp only [Option.some.injEq, Addr.mk.injEq, and_true] at e
        obtain ⟨rfl, rfl⟩ := e
        exact hc'
      go_loopw [9] (fun i wr => ∃ k : Nat, k ≤ n ∧ i = .int .i64 k ∧ BRow wr (q + 1) n (takenS to k) ∧ Save (q + 1) w2 wr ∧ Once to n k) (fun i _ => n - (intOf i).toNat)
      case atStart => exact ⟨0, Nat.zero_le _, rfl, HR1.out, Save.refl _ _, Once.zero⟩
      case round =>
        obtain ⟨k, hk, rfl, hrow, hsv, honce⟩ := hrel
        have hbw : Below q w wr := HB2.out.trans (hsv.below (Nat.le_succ q) (by have := HB2.out.size; have := HQ.out; omega))
        by_cases hlt : k < n
        · have hki : (k : Int) < (n : Int) := by omega
          have hct := HToC.out wr k hlt hbw
          have HRow := Lib.hid hrow; have HSv := Lib.hid hsv; have HOnce := Lib.hid honce; have HBw := Lib.hid hbw
          clear hrow hsv honce hbw
          generalize htk : to.getD k 0 = t at *
          have HTK := Lib.hid htk
          clear htk
          by_cases hbad : t < 0 ∨ (n : Int) ≤ t
          · obtain ⟨e1, e2⟩ := HNo.out (fun c => by have := c.1 k hlt; rw [HTK.out] at this; omega)
            subst e1
            subst e2
            rcases hbad with hneg | hbig
            · go_wp2_with fail
              go_ret2
              exact ⟨_, rfl, RowsSl.nil _, by rw [HQ.out]; exact HBw.out⟩
            · have hnn : ¬ t < 0 := by omega
              go_wp2_with fail
              go_ret2
              exact ⟨_, rfl, RowsSl.nil _, by rw [HQ.out]; exact HBw.out⟩
          · obtain ⟨z, rfl⟩ := Int.eq_ofNat_of_zero_le (show 0 ≤ t by omega)
            have hzn : z < n := by omega
            have hzi : (z : Int) < (n : Int) := by omega
            have hz0' : ¬ (z : Int) < 0 := by omega
            have hzb : ¬ (n : Int) ≤ (z : Int) := by omega
            have d1 := HRow.out.cell hzn
            have f1 := HRow.out.free z
            cases htz : takenS to k z
            · rw [htz] at d1
              have HOn : Hid (Once to n (k + 1)) := Lib.hid (HOnce.out.next (by rw [HTK.out]; omega) (by rw [HTK.out]; omega) fun i hi e => by
                have : takenS to k z = true := takenS_iff.2 ⟨i, hi, e.trans HTK.out⟩
                rw [htz] at this; cases this)
              have HNx : Hid (mark (takenS to k) z = takenS to (k + 1)) := Lib.hid (takenS_next HTK.out)
              clear hbad htz
              go_wp2_with fail
              go_roundw
              case rel => exact ⟨k + 1, by omega, by go_num, by rw [← HNx.out]; exact HRow.out.mark z, HSv.out.trans (Save.set (q + 1) z wr (.bool true)), HOn.out⟩
              case measure => simp [intOf]; omega
            · rw [htz] at d1
              obtain ⟨e1, e2⟩ := HNo.out (fun c => by
                obtain ⟨i, hi, e⟩ := takenS_iff.1 htz
                have := c.2 i k (by omega) hlt (e.trans HTK.out.symm)
                omega)
              subst e1
              subst e2
              clear hbad htz
              go_wp2_with fail
              go_ret2
              exact ⟨_, rfl, RowsSl.nil _, by rw [HQ.out]; exact HBw.out⟩
        · obtain rfl : k = n := by omega
          obtain ⟨e1, e2⟩ := HYes.out honce
          subst e1
          subst e2
          have HVr : Hid (VRow wr q k fun _ => .slice none 0 0) := Lib.hid (hsv.vrow (by omega) HR0.out)
          have HOnce := Lib.hid honce; have HBo := Lib.hid hbw
          clear hrow hsv honce hbw
          go_wp2_with fail
          have hkq : Below q w wr := HBo.out
          have hqr : q < wr.heap.size := HVr.out.lt
          have hnetq : tb ≠ q := by have h1 : tb < w.heap.size := block_lt_of_cell HC0.out; have := HQ.out; omega
          have HInj : Hid (∀ i, i < k → posOf to (tN to i) = i) := Lib.hid fun i hi => posOf_eq HN.out HOnce.out hi (tN_cast HOnce.out hi).1.symm
          have HTn : Hid (∀ i, i < k → to.getD i 0 = ((tN to i : Nat) : Int) ∧ tN to i < k) := Lib.hid fun i hi => ⟨(tN_cast HOnce.out hi).1.symm, (tN_cast HOnce.out hi).2⟩
          have HSur : Hid (∀ v, v < k → ∃ i, i < k ∧ tN to i = v) := Lib.hid fun v hv => by
            obtain ⟨i, hi, e⟩ := mem_getD (once_all HN.out HOnce.out v hv)
            rw [HN.out] at hi
            have := (tN_cast HOnce.out hi).1
            exact ⟨i, hi, by omega⟩
          have HGx : Hid (∀ i, i < k → ∃ gb goff ra rcap, ga = some ⟨gb, goff, none⟩ ∧ gb ≠ q ∧ wr.cell? ⟨gb, goff + i, none⟩ = some (.slice ra (succ G i).length rcap) ∧ NatsIn wr ra (succ G i) ∧ ∀ m, m < (succ G i).length → ∀ b off, ra = some ⟨b, off, none⟩ → b ≠ q) := Lib.hid fun i hi => by
            obtain ⟨gb, goff, ra, rcap, rfl, hcg, hn⟩ := HGr.out i (HGl.out i hi)
            have hb0 : Below w.heap.size w wr := by rw [HQ.out]; exact hkq
            have h1 : gb < w.heap.size := block_lt_of_cell hcg
            refine ⟨gb, goff, ra, rcap, rfl, by have := HQ.out; omega, keep hcg hb0, hn.below hb0, fun m hm b off e => ?_⟩
            obtain ⟨b2, off2, e2, hc2⟩ := hn m hm
            rw [e] at e2
            simp only [Option.some.injEq, Addr.mk.injEq, and_true] at e2
            have h2 : b2 < w.heap.size := block_lt_of_cell hc2
            have := HQ.out
            omega
          have HToR : Hid (∀ x, x < k → wr.cell? ⟨tb, toff + x, none⟩ = some (.int .i64 (to.getD x 0))) := Lib.hid fun x hx => HToC.out wr x hx hkq
          clear hkq
          obtain ⟨W3, HW3⟩ : ∃ W3, Hid (W3 = wr) := ⟨_, Lib.hid rfl⟩
          generalize hnn : k = n at *
          clear hnn
          rw [← HW3.out] at HVr HBo HGx HToR hqr
          go_loopw [10] (fun i ws => ∃ k : Nat, k ≤ n ∧ i = .int .i64 k ∧ ∃ f, VRow ws q n f ∧ Save q W3 ws ∧ (∀ j, j < k → RowAt ws q (f (tN to j)) ((succ G j).map fun x => to.getD x 0)) ∧ ∀ j, k ≤ j → j < n → f (tN to j) = .slice none 0 0) (fun i _ => n - (intOf i).toNat)
          case atStart => exact ⟨0, Nat.zero_le _, rfl, _, by rw [← HW3.out]; exact HVr.out, by rw [← HW3.out]; exact Save.refl _ _, fun j hj => absurd hj (Nat.not_lt_zero _), fun _ _ _ => rfl⟩
          case round =>
            obtain ⟨k, hk, rfl, f, hrow, hsv, hrows, hnil⟩ := hrel
            by_cases hlt : k < n
            · have hki : (k : Int) < (n : Int) := by omega
              obtain ⟨gb, goff, ra, rcap, rfl, hgq, hcg, hnats, hraq⟩ := HGx.out k hlt
              have HRow := Lib.hid hrow; have HSv := Lib.hid hsv; have HRows := Lib.hid hrows; have HNil := Lib.hid hnil; have HNats := Lib.hid hnats; have HRaq := Lib.hid hraq; have HCg := Lib.hid hcg
              have hdk := HDeg.out k
              have HFi := Lib.hid (HFit.out k)
              obtain ⟨hz1', hzn⟩ := HTn.out k hlt
              have HTZ := Lib.hid hz1'
              have HZi : Hid (∀ j, j < n → tN to j = tN to k → j = k) := Lib.hid fun j hj e => by
                have h1 := HInj.out j hj; have h2 := HInj.out k hlt
                rw [e, h2] at h1; exact h1.symm
              have hctk := HToR.out k hlt
              rw [hz1'] at hctk
              clear hrow hsv hrows hnil hnats hraq hz1' hcg
              have HCtk := Lib.hid hctk
              generalize hss : succ G k = ss at *
              have HSS := Lib.hid hss
              generalize hzz : tN to k = z at *
              have HZZ := Lib.hid hzz
              clear hss hzz hctk
              have hzi : (z : Int) < (n : Int) := by omega
              obtain ⟨B, HBB⟩ : ∃ B, Hid (wr.heap.size = B) := ⟨_, Lib.hid rfl⟩
              have hqB : q < B := by have := HBB.out; have := HSv.out.size; omega
              obtain ⟨W4, HW4⟩ : ∃ W4, Hid (W4 = wr) := ⟨_, Lib.hid rfl⟩
              go_wp2_with fail
              go_loopw [11] (fun j ws => ∃ m : Nat, m ≤ ss.length ∧ j = .int .i64 m ∧ ∃ val, VRow ws q n (upd f z val) ∧ Save q W4 ws ∧ ws.ownsRow B 3 1 val m (encI ((ss.map fun x => to.getD x 0).take m))) (fun j _ => ss.length - (intOf j).toNat)
              case atStart => exact ⟨0, Nat.zero_le _, rfl, .slice none 0 0, by rw [upd_same (by rw [← HZZ.out]; exact HNil.out k (Nat.le_refl _) hlt)]; exact HRow.out, by rw [HW4.out]; exact Save.refl _ _, World.ownsRow_nil _ _ _ _⟩
              case round =>
                obtain ⟨m, hm, rfl, val, hrow2, hsv2, hown⟩ := hrel
                have hs34 : Save q W3 W4 := by rw [HW4.out]; exact HSv.out
                by_cases hmt : m < ss.length
                · have hmi : (m : Int) < (ss.length : Int) := by omega
                  obtain ⟨rb, roff, rfl, hcx⟩ := HNats.out m hmt
                  have hrq := HRaq.out m hmt rb roff rfl
                  have hxl := HFi.out _ (getD_mem hmt)
                  have HTk : Hid ((ss.map fun x => to.getD x 0).take (m + 1) = (ss.map fun x => to.getD x 0).take m ++ [to.getD (ss.getD m 0) 0]) := Lib.hid (by
                    rw [List.take_succ_eq_append_getElem (by simpa using hmt)]
                    simp [List.getD_eq_getElem?_getD, List.getElem?_eq_getElem hmt])
                  have hcto0 := HToR.out _ hxl
                  generalize ss.getD m 0 = x at *
                  generalize to.getD x 0 = tx at *
                  have hxi : (x : Int) < (n : Int) := by omega
                  have HSave : Hid (∀ w', Save q W4 w' → w'.cell? ⟨tb, toff + k, none⟩ = some (.int .i64 (z : Nat)) ∧ w'.cell? ⟨gb, goff + k, none⟩ = some (.slice (some ⟨rb, roff, none⟩) ss.length rcap) ∧ w'.cell? ⟨rb, roff + m, none⟩ = some (.int .i64 (x : Nat)) ∧ w'.cell? ⟨tb, toff + x, none⟩ = some (.int .i64 tx)) := Lib.hid fun w' h => by
                    have h' := hs34.trans h
                    exact ⟨h'.cell hnetq HCtk.out, h'.cell hgq HCg.out, h'.cell hrq hcx, h'.cell hnetq hcto0⟩
                  obtain ⟨va0, vc0, rfl⟩ := rowAt_form hown
                  have hcq : wr.cell? ⟨q, z, none⟩ = some (.slice va0 m vc0) := by have := hrow2.cell hzn; rwa [upd_at] at this
                  have hqw2 : q < wr.heap.size := hrow2.lt
                  have hcqA : ∀ o, (wr.drew.alloc o).cell? ⟨q, z, none⟩ = some (.slice va0 m vc0) := fun o => by rw [World.cell?_alloc_lt _ _ _ (by exact hqw2)]; exact hcq
                  have hcqB : ∀ o, (wr.alloc o).drew.cell? ⟨q, z, none⟩ = some (.slice va0 m vc0) := fun o => hcqA o
                  have HS0 := Lib.hid (HSave.out _ hsv2)
                  have hcg1 := HS0.out.2.1
                  have HSA : Hid (∀ o, (wr.alloc o).cell? ⟨tb, toff + k, none⟩ = some (.int .i64 (z : Nat)) ∧ (wr.alloc o).cell? ⟨gb, goff + k, none⟩ = some (.slice (some ⟨rb, roff, none⟩) ss.length rcap) ∧ (wr.alloc o).cell? ⟨rb, roff + m, none⟩ = some (.int .i64 (x : Nat)) ∧ (wr.alloc o).cell? ⟨tb, toff + x, none⟩ = some (.int .i64 tx)) := Lib.hid fun o => HSave.out _ (hsv2.trans (Save.of_below ((Below.refl _ _).alloc (Nat.le_refl _) _)))
                  have hOwnA : ∀ o, (wr.alloc o).ownsRow B 3 1 (.slice va0 m vc0) m (encI ((ss.map fun x => to.getD x 0).take m)) := fun o => hown.alloc o
                  have HOwnA := Lib.hid hOwnA; have HRow2 := Lib.hid hrow2; have HSv2 := Lib.hid hsv2; have HOwn := Lib.hid hown
                  have HSz : Hid (B ≤ wr.heap.size) := Lib.hid (by have h1 : W4.heap.size = B := (by rw [HW4.out]; exact HBB.out); have := hsv2.size; omega)
                  have HBB : Hid (W4.heap.size = B) := Lib.hid (by rw [HW4.out]; exact HBB.out)
                  clear hrow2 hsv2 hown hOwnA hcto0 hs34
                  go_wp2_with fail
                  refine wp_region_held_drew (S := (fun w' => w'.cell? ⟨tb, toff + k, none⟩ = some (.int .i64 (z : Nat)) ∧ w'.cell? ⟨gb, goff + k, none⟩ = some (.slice (some ⟨rb, roff, none⟩) ss.length rcap) ∧ w'.cell? ⟨rb, roff + m, none⟩ = some (.int .i64 (x : Nat)) ∧ w'.cell? ⟨tb, toff + x, none⟩ = some (.int .i64 tx))) (by kernel_rfl) HS0.out (fun hHeld => ?_)
                  refine wpAnyH_take (i := 0) (v := ?v0) (by simp only [List.getElem?_toArray, List.getElem?_cons_zero]; rfl) (by kernel_rfl) (by kernel_rfl) (by kernel_rfl) (by exact fun _ _ _ h => h) (Or.inl ⟨by rfl, ?hy0⟩) (by assumption) ?_
                  case hy0 => intro w hSw; (try dsimp only at hSw); go_simp; try with_reducible rfl
                  try simp only [Act.put, List.setIfInBounds_toArray, List.set_cons_zero, List.set_cons_succ]
                  refine wpAnyH_take (i := 1) (v := ?v1) (by simp only [List.getElem?_toArray, List.getElem?_cons_zero, List.getElem?_cons_succ]; rfl) (by kernel_rfl) (by kernel_rfl) (by kernel_rfl) (by exact fun _ _ _ h => h) (Or.inl ⟨by rfl, ?hy1⟩) (by assumption) ?_
                  case hy1 => intro w hSw; (try dsimp only at hSw); go_simp; try with_reducible rfl
                  try simp only [Act.put, List.setIfInBounds_toArray, List.set_cons_zero, List.set_cons_succ]
                  refine wpAnyH_take (i := 2) (v := ?v2) (by simp only [List.getElem?_toArray, List.getElem?_cons_zero, List.getElem?_cons_succ]; rfl) (by kernel_rfl) (by kernel_rfl) (by kernel_rfl) (by exact fun _ _ _ h => h) (Or.inl ⟨by rfl, ?hy2⟩) (by assumption) ?_
                  case hy2 => intro w hSw; (try dsimp only at hSw); go_simp; try with_reducible rfl
                  try simp only [Act.put, List.setIfInBounds_toArray, List.set_cons_zero, List.set_cons_succ]
                  refine wpAnyH_take (i := 3) (v := ?v3) (by simp only [List.getElem?_toArray, List.getElem?_cons_zero, List.getElem?_cons_succ]; rfl) (by kernel_rfl) (by kernel_rfl) (by kernel_rfl) (by exact fun _ _ _ h => h) (Or.inl ⟨by rfl, ?hy3⟩) (by assumption) ?_
                  case hy3 => intro w hSw; (try dsimp only at hSw); go_simp; try with_reducible rfl
                  try simp only [Act.put, List.setIfInBounds_toArray, List.set_cons_zero, List.set_cons_succ]
                  refine wpAnyH_take (i := 4) (v := ?v4) (by simp only [List.getElem?_toArray, List.getElem?_cons_zero, List.getElem?_cons_succ]; rfl) (by kernel_rfl) (by kernel_rfl) (by kernel_rfl) (by exact fun _ _ _ h => h) (Or.inl ⟨by rfl, ?hy4⟩) (by assumption) ?_
                  case hy4 => intro w hSw; (try dsimp only at hSw); go_simp; try with_reducible rfl
                  try simp only [Act.put, List.setIfInBounds_toArray, List.set_cons_zero, List.set_cons_succ]
                  refine wpAnyH_take (i := 5) (v := ?v5) (by simp only [List.getElem?_toArray, List.getElem?_cons_zero, List.getElem?_cons_succ]; rfl) (by kernel_rfl) (by kernel_rfl) (by kernel_rfl) (by exact fun _ _ _ h => h) (Or.inl ⟨by rfl, ?hy5⟩) (by assumption) ?_
                  case hy5 => intro w hSw; (try dsimp only at hSw); go_simp; try with_reducible rfl
                  try simp only [Act.put, List.setIfInBounds_toArray, List.set_cons_zero, List.set_cons_succ]
                  refine wpAnyH_take (i := 6) (v := ?v6) (by simp only [List.getElem?_toArray, List.getElem?_cons_zero, List.getElem?_cons_succ]; rfl) (by kernel_rfl) (by kernel_rfl) (by kernel_rfl) (by exact fun _ _ _ h => h) (Or.inl ⟨by rfl, ?hy6⟩) (by assumption) ?_
                  case hy6 => intro w hSw; (try dsimp only at hSw); go_simp; try with_reducible rfl
                  try simp only [Act.put, List.setIfInBounds_toArray, List.set_cons_zero, List.set_cons_succ]
                  refine wpAnyH_take (i := 7) (v := ?v7) (by simp only [List.getElem?_toArray, List.getElem?_cons_zero, List.getElem?_cons_succ]; rfl) (by kernel_rfl) (by kernel_rfl) (by kernel_rfl) (by exact fun _ _ _ h => h) (Or.inl ⟨by rfl, ?hy7⟩) (by assumption) ?_
                  case hy7 => intro w hSw; (try dsimp only at hSw); go_simp; try with_reducible rfl
                  try simp only [Act.put, List.setIfInBounds_toArray, List.set_cons_zero, List.set_cons_succ]
                  refine wpAnyH_take (i := 8) (v := ?v8) (by simp only [List.getElem?_toArray, List.getElem?_cons_zero, List.getElem?_cons_succ]; rfl) (by kernel_rfl) (by kernel_rfl) (by kernel_rfl) (by exact fun _ _ _ h => h) (Or.inl ⟨by rfl, ?hy8⟩) (by assumption) ?_
                  case hy8 => intro w hSw; (try dsimp only at hSw); go_simp; try with_reducible rfl
                  try simp only [Act.put, List.setIfInBounds_toArray, List.set_cons_zero, List.set_cons_succ]
                  refine wpAnyH_take (i := 9) (v := ?v9) (by simp only [List.getElem?_toArray, List.getElem?_cons_zero, List.getElem?_cons_succ]; rfl) (by kernel_rfl) (by kernel_rfl) (by kernel_rfl) (by exact fun _ _ _ h => h) (Or.inl ⟨by rfl, ?hy9⟩) (by assumption) ?_
                  case hy9 => intro w hSw; (try dsimp only at hSw); go_simp; try with_reducible rfl
                  try simp only [Act.put, List.setIfInBounds_toArray, List.set_cons_zero, List.set_cons_succ]
                  refine wpAnyH_take (i := 10) (v := ?v10) (by simp only [List.getElem?_toArray, List.getElem?_cons_zero, List.getElem?_cons_succ]; rfl) (by kernel_rfl) (by kernel_rfl) (by kernel_rfl) (by exact fun _ _ _ h => h) (Or.inl ⟨by rfl, ?hy10⟩) (by assumption) ?_
                  case hy10 => intro w hSw; (try dsimp only at hSw); go_simp; try with_reducible rfl
                  try simp only [Act.put, List.setIfInBounds_toArray, List.set_cons_zero, List.set_cons_succ]
                  refine wpAnyH_take (i := 12) (v := ?v12) (by simp only [List.getElem?_toArray, List.getElem?_cons_zero, List.getElem?_cons_succ]; rfl) (by kernel_rfl) (by kernel_rfl) (by kernel_rfl) (by exact fun _ _ _ h => h) (Or.inl ⟨by rfl, ?hy12⟩) (by assumption) ?_
                  case hy12 => intro w hSw; (try dsimp only at hSw); go_simp; try with_reducible rfl
                  try simp only [Act.put, List.setIfInBounds_toArray, List.set_cons_zero, List.set_cons_succ]
                  refine wpAnyH_take (i := 13) (v := ?v13) (by simp only [List.getElem?_toArray, List.getElem?_cons_zero, List.getElem?_cons_succ]; rfl) (by kernel_rfl) (by kernel_rfl) (by kernel_rfl) (by exact fun _ _ _ h => h) (Or.inl ⟨by rfl, ?hy13⟩) (by assumption) ?_
                  case hy13 => intro w hSw; (try dsimp only at hSw); go_simp; try with_reducible rfl
                  try simp only [Act.put, List.setIfInBounds_toArray, List.set_cons_zero, List.set_cons_succ]
                  refine wpAnyH_take (i := 14) (v := ?v14) (by simp only [List.getElem?_toArray, List.getElem?_cons_zero, List.getElem?_cons_succ]; rfl) (by kernel_rfl) (by kernel_rfl) (by kernel_rfl) (by exact fun _ _ _ h => h) (Or.inl ⟨by rfl, ?hy14⟩) (by assumption) ?_
                  case hy14 => intro w hSw; (try dsimp only at hSw); go_simp; try with_reducible rfl
                  try simp only [Act.put, List.setIfInBounds_toArray, List.set_cons_zero, List.set_cons_succ]
                  refine wpAnyH_take (i := 15) (v := ?v15) (by simp only [List.getElem?_toArray, List.getElem?_cons_zero, List.getElem?_cons_succ]; rfl) (by kernel_rfl) (by kernel_rfl) (by kernel_rfl) (by exact fun _ _ _ h => h) (Or.inl ⟨by rfl, ?hy15⟩) (by assumption) ?_
                  case hy15 => intro w hSw; (try dsimp only at hSw); go_simp; try with_reducible rfl
                  try simp only [Act.put, List.setIfInBounds_toArray, List.set_cons_zero, List.set_cons_succ]
                  refine wpAnyH_take (i := 16) (v := ?v16) (by simp only [List.getElem?_toArray, List.getElem?_cons_zero, List.getElem?_cons_succ]; rfl) (by kernel_rfl) (by kernel_rfl) (by kernel_rfl) (by exact fun _ _ _ h => h) (Or.inl ⟨by rfl, ?hy16⟩) (by assumption) ?_
                  case hy16 => intro w hSw; (try dsimp only at hSw); go_simp; try with_reducible rfl
                  try simp only [Act.put, List.setIfInBounds_toArray, List.set_cons_zero, List.set_cons_succ]
                  refine wpAnyH_take (i := 17) (v := ?v17) (by simp only [List.getElem?_toArray, List.getElem?_cons_zero, List.getElem?_cons_succ]; rfl) (by kernel_rfl) (by kernel_rfl) (by kernel_rfl) (by exact fun _ _ _ h => h) (Or.inl ⟨by rfl, ?hy17⟩) (by assumption) ?_
                  case hy17 => intro w hSw; (try dsimp only at hSw); go_simp; try with_reducible rfl
                  try simp only [Act.put, List.setIfInBounds_toArray, List.set_cons_zero, List.set_cons_succ]
                  refine wpAnyH_take (i := 18) (v := ?v18) (by simp only [List.getElem?_toArray, List.getElem?_cons_zero, List.getElem?_cons_succ]; rfl) (by kernel_rfl) (by kernel_rfl) (by kernel_rfl) (by exact fun _ _ _ h => h) (Or.inl ⟨by rfl, ?hy18⟩) (by assumption) ?_
                  case hy18 => intro w hSw; (try dsimp only at hSw); go_simp; try with_reducible rfl
                  try simp only [Act.put, List.setIfInBounds_toArray, List.set_cons_zero, List.set_cons_succ]
                  refine wpAnyH_take (i := 19) (v := ?v19) (by simp only [List.getElem?_toArray, List.getElem?_cons_zero, List.getElem?_cons_succ]; rfl) (by kernel_rfl) (by kernel_rfl) (by kernel_rfl) (by exact fun _ _ _ h => h) (Or.inl ⟨by rfl, ?hy19⟩) (by assumption) ?_
                  case hy19 => intro w hSw; (try dsimp only at hSw); go_simp; try with_reducible rfl
                  try simp only [Act.put, List.setIfInBounds_toArray, List.set_cons_zero, List.set_cons_succ]
                  refine wpAnyH_take (i := 20) (v := ?v20) (by simp only [List.getElem?_toArray, List.getElem?_cons_zero, List.getElem?_cons_succ]; rfl) (by kernel_rfl) (by kernel_rfl) (by kernel_rfl) (by exact fun _ _ _ h => h) (Or.inl ⟨by rfl, ?hy20⟩) (by assumption) ?_
                  case hy20 => intro w hSw; (try dsimp only at hSw); go_simp; try with_reducible rfl
                  try simp only [Act.put, List.setIfInBounds_toArray, List.set_cons_zero, List.set_cons_succ]
                  refine wpAnyH_take (i := 21) (v := ?v21) (by simp only [List.getElem?_toArray, List.getElem?_cons_zero, List.getElem?_cons_succ]; rfl) (by kernel_rfl) (by kernel_rfl) (by kernel_rfl) (by exact fun _ _ _ h => h) (Or.inl ⟨by rfl, ?hy21⟩) (by assumption) ?_
                  case hy21 => intro w hSw; (try dsimp only at hSw); go_simp; try with_reducible rfl
                  try simp only [Act.put, List.setIfInBounds_toArray, List.set_cons_zero, List.set_cons_succ]
                  refine wpAnyH_ready (rs := [11, 22]) (by kernel_rfl) (by simp) ?_
                  refine AllReadyH.cons (by simp only [List.getElem?_toArray, List.getElem?_cons_zero, List.getElem?_cons_succ]; rfl) (fun K hK => ?_) (AllReadyH.cons (by simp only [List.getElem?_toArray, List.getElem?_cons_zero, List.getElem?_cons_succ]; rfl) (fun K hK => ?_) AllReadyH.nil)
                  · go_simp
                    refine hK.out _ _ HS0.out (fun hHeld2 => ?_)
                    clear hK K
                    try simp only [Act.put, List.setIfInBounds_toArray, List.set_cons_zero, List.set_cons_succ]
                    refine wpAnyH_ready (rs := [22]) (by kernel_rfl) (by simp) ?_
                    refine AllReadyH.cons (by simp only [List.getElem?_toArray, List.getElem?_cons_zero, List.getElem?_cons_succ]; rfl) (fun K hK => ?_) AllReadyH.nil
                    go_simp
                    refine hK.out _ _ (HSA.out _) (fun hHeld5 => ?_)
                    clear hK K
                    try simp only [Act.put, List.setIfInBounds_toArray, List.set_cons_zero, List.set_cons_succ]
                    refine wpAnyH_ready (rs := [23]) (by kernel_rfl) (by simp) ?_
                    refine AllReadyH.cons (by simp only [List.getElem?_toArray, List.getElem?_cons_zero, List.getElem?_cons_succ]; rfl) (fun K hK => ?_) AllReadyH.nil
                    refine step_append_own rfl _ _ 32 rfl B 3 i0 (.int .i64 0) 1 8 Try.underlying32 hi hz0 hz1 hz2 rfl (by decide) _ _ _ rfl (HOwnA.out _) ⟨wr.heap.size, 0, none⟩ 1 1 [.int .i64 tx] rfl rfl (cell_one_new _ _ _) one_int (by unfold maxLen; omega) (by omega) (by have := HSz.out; simp; omega) ?_
                    intro v' w3 hown3 hgrow
                    have hgrow1 : (wr.alloc (.cells #[.int .i64 tx] 3)).grownBy w3 _ := ⟨hgrow.os, hgrow.tape, hgrow.output, hgrow.size, hgrow.block⟩
                    obtain ⟨va, vc, rfl⟩ := rowAt_form hown3
                    have hS3 := save_grown HSv2.out hgrow1 (fun j hj => by have := (HOwn.out.lt j hj).1; have := HBB.out; omega)
                    have hT3 := HSave.out _ hS3
                    have hV3 := (HRow2.out.alloc _).grown hgrow1 (fun j hj => by have := (HOwn.out.lt j hj).1; omega)
                    have hF3 := hV3.free z
                    have hC3 : w3.cell? ⟨q, z, none⟩ = some (.slice va0 m vc0) := by have := hV3.cell hzn; rwa [upd_at] at this
                    have HV3 := Lib.hid hV3; have HS3 := Lib.hid hS3; have HO3 := Lib.hid hown3
                    clear hV3 hS3 hown3 hgrow hgrow1
                    try go_simp
                    refine hK.out _ _ hT3 (fun hHeld3 => ?_)
                    clear hK K
                    try simp only [Act.put, List.setIfInBounds_toArray, List.set_cons_zero, List.set_cons_succ]
                    refine wpAnyH_take (i := 24) (v := ?v24a) (by simp only [List.getElem?_toArray, List.getElem?_cons_zero, List.getElem?_cons_succ]; rfl) (by kernel_rfl) (by kernel_rfl) (by kernel_rfl) (by exact fun _ _ _ h => h) (Or.inl ⟨by rfl, ?hy24a⟩) (by assumption) ?_
                    case hy24a => intro w hSw; (try dsimp only at hSw); go_simp; try with_reducible rfl
                    try simp only [Act.put, List.setIfInBounds_toArray, List.set_cons_zero, List.set_cons_succ]
                    refine wpAnyH_ready (rs := [25]) (by kernel_rfl) (by simp) ?_
                    refine AllReadyH.cons (by simp only [List.getElem?_toArray, List.getElem?_cons_zero, List.getElem?_cons_succ]; rfl) (fun K hK => ?_) AllReadyH.nil
                    go_simp
                    refine hK.out _ _ (HSave.out _ (HS3.out.trans (Save.set q z w3 _))) (fun hHeld4 => ?_)
                    clear hK K
                    try simp only [Act.put, List.setIfInBounds_toArray, List.set_cons_zero, List.set_cons_succ]
                    refine wpAnyH_done (by kernel_rfl) ?_ _
                    go_wp2_with fail
                    go_roundw
                    case rel => exact ⟨m + 1, by omega, by go_num, .slice va (m + 1) vc, by have := HV3.out.set z (.slice va (m + 1) vc); rwa [upd_upd] at this, HS3.out.trans (Save.set q z w3 _), by rw [HTk.out, encI_snoc]; exact ownsRow_setCell_below HO3.out (a := ⟨q, z, none⟩) hqB _⟩
                    case measure => simp [intOf]; omega
                  · go_simp
                    refine hK.out _ _ (HSA.out _) (fun hHeld2 => ?_)
                    clear hK K
                    try simp only [Act.put, List.setIfInBounds_toArray, List.set_cons_zero, List.set_cons_succ]
                    refine wpAnyH_ready (rs := [11]) (by kernel_rfl) (by simp) ?_
                    refine AllReadyH.cons (by simp only [List.getElem?_toArray, List.getElem?_cons_zero, List.getElem?_cons_succ]; rfl) (fun K hK => ?_) AllReadyH.nil
                    go_simp
                    refine hK.out _ _ (HSA.out _) (fun hHeld5 => ?_)
                    clear hK K
                    try simp only [Act.put, List.setIfInBounds_toArray, List.set_cons_zero, List.set_cons_succ]
                    refine wpAnyH_ready (rs := [23]) (by kernel_rfl) (by simp) ?_
                    refine AllReadyH.cons (by simp only [List.getElem?_toArray, List.getElem?_cons_zero, List.getElem?_cons_succ]; rfl) (fun K hK => ?_) AllReadyH.nil
                    refine step_append_own rfl _ _ 32 rfl B 3 i0 (.int .i64 0) 1 8 Try.underlying32 hi hz0 hz1 hz2 rfl (by decide) _ _ _ rfl (HOwnA.out _) ⟨wr.heap.size, 0, none⟩ 1 1 [.int .i64 tx] rfl rfl (cell_one_new _ _ _) one_int (by unfold maxLen; omega) (by omega) (by have := HSz.out; simp; omega) ?_
                    intro v' w3 hown3 hgrow
                    have hgrow1 : (wr.alloc (.cells #[.int .i64 tx] 3)).grownBy w3 _ := ⟨hgrow.os, hgrow.tape, hgrow.output, hgrow.size, hgrow.block⟩
                    obtain ⟨va, vc, rfl⟩ := rowAt_form hown3
                    have hS3 := save_grown HSv2.out hgrow1 (fun j hj => by have := (HOwn.out.lt j hj).1; have := HBB.out; omega)
                    have hT3 := HSave.out _ hS3
                    have hV3 := (HRow2.out.alloc _).grown hgrow1 (fun j hj => by have := (HOwn.out.lt j hj).1; omega)
                    have hF3 := hV3.free z
                    have hC3 : w3.cell? ⟨q, z, none⟩ = some (.slice va0 m vc0) := by have := hV3.cell hzn; rwa [upd_at] at this
                    have HV3 := Lib.hid hV3; have HS3 := Lib.hid hS3; have HO3 := Lib.hid hown3
                    clear hV3 hS3 hown3 hgrow hgrow1
                    try go_simp
                    refine hK.out _ _ hT3 (fun hHeld3 => ?_)
                    clear hK K
                    try simp only [Act.put, List.setIfInBounds_toArray, List.set_cons_zero, List.set_cons_succ]
                    refine wpAnyH_take (i := 24) (v := ?v24b) (by simp only [List.getElem?_toArray, List.getElem?_cons_zero, List.getElem?_cons_succ]; rfl) (by kernel_rfl) (by kernel_rfl) (by kernel_rfl) (by exact fun _ _ _ h => h) (Or.inl ⟨by rfl, ?hy24b⟩) (by assumption) ?_
                    case hy24b => intro w hSw; (try dsimp only at hSw); go_simp; try with_reducible rfl
                    try simp only [Act.put, List.setIfInBounds_toArray, List.set_cons_zero, List.set_cons_succ]
                    refine wpAnyH_ready (rs := [25]) (by kernel_rfl) (by simp) ?_
                    refine AllReadyH.cons (by simp only [List.getElem?_toArray, List.getElem?_cons_zero, List.getElem?_cons_succ]; rfl) (fun K hK => ?_) AllReadyH.nil
                    go_simp
                    refine hK.out _ _ (HSave.out _ (HS3.out.trans (Save.set q z w3 _))) (fun hHeld4 => ?_)
                    clear hK K
                    try simp only [Act.put, List.setIfInBounds_toArray, List.set_cons_zero, List.set_cons_succ]
                    refine wpAnyH_done (by kernel_rfl) ?_ _
                    go_wp2_with fail
                    go_roundw
                    case rel => exact ⟨m + 1, by omega, by go_num, .slice va (m + 1) vc, by have := HV3.out.set z (.slice va (m + 1) vc); rwa [upd_upd] at this, HS3.out.trans (Save.set q z w3 _), by rw [HTk.out, encI_snoc]; exact ownsRow_setCell_below HO3.out (a := ⟨q, z, none⟩) hqB _⟩
                    case measure => simp [intOf]; omega
                · obtain rfl : m = ss.length := by omega
                  have hcg1 : wr.cell? ⟨gb, goff + k, none⟩ = some (.slice ra ss.length rcap) := (hs34.trans hsv2).cell hgq HCg.out
                  have hfin : RowAt wr q val ((ss.map fun x => to.getD x 0)) := by
                    rw [List.take_of_length_le (by simp)] at hown
                    exact rowAt_owns (by rw [List.length_map]; exact hown) hqB
                  have HFin := Lib.hid hfin; have HRow2 := Lib.hid hrow2; have HSv2 := Lib.hid hsv2; have HS34 := Lib.hid hs34
                  clear hown hfin hrow2 hsv2 hs34
                  go_wp2_with fail
                  go_roundw
                  case rel => exact ⟨k + 1, by omega, by go_num, upd f z val, HRow2.out, HS34.out.trans HSv2.out, fun j hj => by
                    by_cases c : j = k
                    · subst c; rw [HZZ.out, upd_at, HSS.out]; exact HFin.out
                    · rw [upd_ne (fun e => c (HZi.out j (by omega) e))]; exact (show RowAt W4 q _ _ by rw [HW4.out]; exact HRows.out j (by omega)).save HSv2.out, fun j hj hjn => by rw [upd_ne (fun e => by have := HZi.out j hjn e; omega)]; exact HNil.out j (by omega) hjn⟩
                  case measure => simp [intOf]; omega
            · obtain rfl : k = n := by omega
              have HRes := Lib.hid (rowsSl_made (R := RI) hrow fun j hj => by
                obtain ⟨i, hi, rfl⟩ := HSur.out j hj
                rw [HRen.out _ i (HInj.out i hi)]
                exact hrows i hi)
              have HBw : Hid (Below q w wr) := Lib.hid (HBo.out.trans (hsv.below (Nat.le_refl _) (by omega)))
              have hll : ((List.range k).map RI).length = k := by simp
              clear hrow hrows hsv hnil
              go_wp2_with fail
              go_ret2
              exact ⟨_, rfl, HRes.out, by rw [HQ.out]; exact HBw.out⟩
    · have hp : permB to g.length = false := by
        rw [← Bool.not_eq_true, permB_iff]
        exact fun c => hhead ⟨c.1, c.2.1⟩
      obtain ⟨e1, e2⟩ := renE_not hv hp
      rw [e1, e2]; rw [hv] at HV
      by_cases hlen : to.length = g.length
      · have hne : to.getD 0 0 ≠ 0 := fun c => hhead ⟨hlen, c⟩
        obtain ⟨tb, toff, rfl, hc⟩ := ht 0 (by omega)
        rw [hlen] at *
        have hneb : (to.getD 0 0 == 0) = false := by rw [beq_eq_false_iff_ne]; exact hne
        have hgi : (0 : Int) < (g.length : Int) := by omega
        rw [Nat.add_zero] at hc
        clear ht hin hs hv ok hhead hp e1 e2 hlen
        generalize to.getD 0 0 = t0 at *
        go_enter Try.func32, Try.ntmps32
        go_wp2_with fail
        refine HV.out.mono ?_; rintro e w1 ⟨rfl, rfl⟩
        go_wp2_with fail
        go_ret2
        exact ⟨_, rfl, RowsSl.nil _, Below.refl _ _⟩
      · have hneb : ((to.length : Int) == (g.length : Int)) = false := by rw [beq_eq_false_iff_ne]; omega
        clear ht hin hs hv ok hhead hp e1 e2
        go_enter Try.func32, Try.ntmps32
        go_wp2_with fail
        refine HV.out.mono ?_; rintro e w1 ⟨rfl, rfl⟩
        go_wp2_with fail
        go_ret2
        exact ⟨_, rfl, RowsSl.nil _, Below.refl _ _⟩
  · have e1 : renE g to = validE g := by unfold renE; rw [if_neg hv]
    have e2 : renL g to = [] := by unfold renL; rw [e1, if_neg hv]
    rw [e1, e2]
    generalize validE g = E at *
    have hvb : (E == 0) = false := by rw [beq_eq_false_iff_ne]; exact hv
    clear hin hs ht e1 e2
    go_enter Try.func32, Try.ntmps32
    go_wp2_with fail
    refine HV.out.mono ?_; rintro e w1 ⟨rfl, rfl⟩
    go_wp2_with fail
    go_ret2
    exact ⟨_, rfl, RowsSl.nil _, Below.refl _ _⟩
end Go.Proofs.Ytmljmmnofhhheaa
