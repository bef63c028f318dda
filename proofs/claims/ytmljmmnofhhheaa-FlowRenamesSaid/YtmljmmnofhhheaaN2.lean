/- The walk of the program's Rename. -/
import Derived.Test.YtmljmmnofhhheaaN1
namespace Go.Proofs.Ytmljmmnofhhheaa
open Go.RowKit

theorem renE_not {g : List (List Int)} {to : List Int} (hv : validE g = 0) (h : permB to g.length = false) : renE g to = 1 ∧ renL g to = [] := by
  have e : renE g to = 1 := by unfold renE; rw [if_pos hv, h]; rfl
  refine ⟨e, ?_⟩
  unfold renL
  rw [e]; rfl
theorem renE_yes {g : List (List Int)} {to : List Int} (hv : validE g = 0) (h : permB to g.length = true) : renE g to = 0 ∧ renL g to = (List.range g.length).map (renI g to) := by
  have e : renE g to = 0 := by unfold renE; rw [if_pos hv, h]; rfl
  refine ⟨e, ?_⟩
  unfold renL
  rw [if_pos e]
theorem perm_not {to : List Int} {n v : Nat} (hv : v < n) (h : (v : Int) ∉ to) : permB to n = false := by
  rw [← Bool.not_eq_true, permB_iff]
  exact fun c => h (c.2.2 v hv)
theorem save_grown {q : Nat} {a b w3 : World} {row : Option Nat} {o : Obj} (h : Save q a b) (hg : (b.alloc o).grownBy w3 row) (hr : ∀ k, row = some k → a.heap.size ≤ k) : Save q a w3 := by
  refine ⟨hg.os.trans h.os, hg.tape.trans h.tape, hg.output.trans h.output, Nat.le_trans h.size (Nat.le_trans (by simp) hg.size), fun k hk hq => ?_⟩
  have hkb : k < b.heap.size := Nat.lt_of_lt_of_le hk h.size
  rw [hg.block k (by simp; omega) (fun e => by have := hr k e.symm; omega), heap_past _ _ _ hkb]
  exact h.block k hk hq
theorem grown_drew {w w' : World} {o : Obj} {row : Option Nat} (h : (w.drew.alloc o).grownBy w' row) : (w.alloc o).grownBy w' row := ⟨h.os, h.tape, h.output, h.size, h.block⟩
theorem first_pos {to : List Int} {v : Nat} {r : Int} (h : FirstAt to v r) (hr : 0 ≤ r) : r.toNat < to.length ∧ (v : Int) ∈ to ∧ posOf to v = r.toNat := by
  rcases h with ⟨rfl, _⟩ | ⟨_, h1, h2, h3⟩
  · omega
  · refine ⟨h1, h2 ▸ getD_memI h1, ?_⟩
    unfold posOf
    cases hf : (List.range to.length).find? fun i => to.getD i 0 == (v : Int) with
    | none =>
      have := List.find?_eq_none.1 hf r.toNat (by rw [List.mem_range]; exact h1)
      rw [h2] at this
      simp at this
    | some j =>
      have e2 := List.find?_some hf
      have e3 : to.getD j 0 = (v : Int) := by simpa using e2
      show j = r.toNat
      rcases Nat.lt_trichotomy j r.toNat with c | c | c
      · exact absurd e3 (h3 j c)
      · exact c
      · exfalso
        have hb := List.find?_eq_some_iff_append.1 hf
        obtain ⟨_, us, vs, hl, hall⟩ := hb
        have hjl : us.length = j := by
          have := congrArg (fun l => l[us.length]?) hl
          simp only [List.getElem?_append_right (Nat.le_refl _), Nat.sub_self, List.getElem?_cons_zero] at this
          by_cases hlt : us.length < to.length
          · rw [List.getElem?_range hlt] at this
            simpa using this
          · rw [List.getElem?_eq_none (by simp; omega)] at this; cases this
        have hmem : r.toNat ∈ us := by
          rw [List.mem_iff_getElem]
          refine ⟨r.toNat, by omega, ?_⟩
          have := congrArg (fun l => l[r.toNat]?) hl
          simp only [List.getElem?_append_left (show r.toNat < us.length by omega)] at this
          rw [List.getElem?_range h1, List.getElem?_eq_getElem (by omega)] at this
          simpa using this.symm
        have := hall _ hmem
        rw [h2] at this
        simp at this

set_option maxRecDepth 100000 in
set_option maxHeartbeats 4000000 in
theorem Rename_any (g : List (List Int)) (ga : Option Addr) (cap : Nat) (to : List Int) (ta : Option Addr) (tcap : Nat) (w : World) (hin : RowsIn w ga g) (hs : Short g) (ht : IntsIn w ta to) (htl : to.length ≤ 1000) :
    Calls Try.prog 31 #[.slice ga g.length cap, .slice ta to.length tcap] w (RowsPost (renE g to) (renL g to) w) := by
  have HV := Lib.hid (Validate_any g ga cap w hin hs)
  by_cases hv : validE g = 0
  · have ok := valid_ok hv
    have h10 : g.length ≤ 10 := by have := ok.ten; rwa [gN_len] at this
    have hpos : 0 < g.length := by have := ok.pos; rwa [gN_len] at this
    by_cases hhead : to.length = g.length ∧ to.getD 0 0 = 0
    · obtain ⟨hlen, h0⟩ := hhead
      rw [← hlen] at h10 hpos
      have hG := hin.graph hv
      have HGr := Lib.hid hG
      have HTo := Lib.hid ht
      have HIdx : Hid (∀ w' (v : Nat), Below w.heap.size w w' → Calls Try.prog 66 #[.slice ta to.length tcap, .int .i64 v] w' (IndexPost to v w')) := Lib.hid fun w' v hb => index_any to ta tcap v w' (ht.below hb) htl
      have HNo : Hid (∀ v, v < to.length → (v : Int) ∉ to → renE g to = 1 ∧ renL g to = []) := Lib.hid fun v hvl hm => renE_not hv (perm_not (by omega) hm)
      have HYes : Hid ((∀ v, v < to.length → (v : Int) ∈ to) → renE g to = 0 ∧ renL g to = (List.range to.length).map (renI g to)) := Lib.hid fun h => by
        rw [hlen] at h ⊢
        exact renE_yes hv (permB_iff.2 ⟨hlen, h0, h⟩)
      have HRen : Hid (∀ v i, posOf to v = i → renI g to v = (succ (gN g) i).map fun x => to.getD x 0) := Lib.hid fun v i h => by unfold renI; rw [h]
      have HFit : Hid (∀ v x, x ∈ succ (gN g) v → x < to.length) := Lib.hid fun v x hx => by have := ok.fits v x hx; rwa [gN_len, ← hlen] at this
      have HDeg : Hid (∀ v, (succ (gN g) v).length ≤ 2) := Lib.hid ok.deg
      have HGl : Hid (∀ i, i < to.length → i < (gN g).length) := Lib.hid fun i hi => by rw [gN_len, ← hlen]; exact hi
      rw [hv] at HV
      rw [← hlen] at HV ⊢
      obtain ⟨tb, toff, rfl, hc0⟩ := ht 0 hpos
      rw [h0, Nat.add_zero] at hc0
      have HC0 := Lib.hid hc0
      clear hc0 ht hin hs hv ok hlen h0 hG
      generalize renE g to = E at *
      generalize renL g to = L at *
      generalize renI g to = RI at *
      generalize gN g = G at *
      generalize hn : to.length = n at *
      have hmk := run_make_row' (P := Try.prog) 22 32 (.slice none 0 0) 24 Try.underlying22 Try.infoRow rfl .i64 .i64 n (by omega) (by omega)
      have hni : (0 : Int) < (n : Int) := by omega
      obtain ⟨i0, hi, hz0, hz1, hz2⟩ := info_parts Try.infoInt
      have HN := Lib.hid hn
      clear hn
      go_enter Try.func31, Try.ntmps31
      go_wp2_with fail
      refine HV.out.mono ?_; rintro e w1 ⟨rfl, hb1⟩
      have hc1 := keep HC0.out hb1
      have HB1 := Lib.hid hb1
      clear hb1
      go_wp2_with fail
      have hrow0 : VRow (w1.alloc (.cells (madeCells #[.slice none 0 0] n) 32)) w1.heap.size n (fun _ => .slice none 0 0) := by
        rw [valArr_made]; exact heap_at _ _ _ rfl
      have hbl0 : Below w.heap.size w (w1.alloc (.cells (madeCells #[.slice none 0 0] n) 32)) := HB1.out.alloc HB1.out.size _
      have hqw := HB1.out.size
      generalize hw2 : w1.alloc (.cells (madeCells #[.slice none 0 0] n) 32) = w2 at *
      generalize hq : w1.heap.size = q at *
      have HR0 := Lib.hid hrow0; have HB2 := Lib.hid hbl0
      clear hw2 hq hrow0 hbl0 hmk
      go_loopw [33] (fun i wr => ∃ k : Nat, k ≤ n ∧ i = .int .i64 k ∧ ∃ f, VRow wr q n f ∧ Save q w2 wr ∧ (∀ j, j < k → RowAt wr q (f j) (RI j)) ∧ (∀ j, k ≤ j → f j = .slice none 0 0) ∧ ∀ j : Nat, j < k → (j : Int) ∈ to) (fun i _ => n - (intOf i).toNat)
      case atStart => exact ⟨0, Nat.zero_le _, rfl, _, HR0.out, Save.refl _ _, fun j hj => absurd hj (Nat.not_lt_zero _), fun _ _ => rfl, fun j hj => absurd hj (Nat.not_lt_zero _)⟩
      case round =>
        obtain ⟨k, hk, rfl, f, hrow, hsv, hrows, hnil, hthere⟩ := hrel
        have hqr : q < wr.heap.size := hrow.lt
        by_cases hlt : k < n
        · have hki : (k : Int) < (n : Int) := by omega
          have hbw : Below w.heap.size w wr := HB2.out.trans (hsv.below hqw HB2.out.size)
          have HIk := Lib.hid (HIdx.out wr k hbw)
          have HRow := Lib.hid hrow; have HSv := Lib.hid hsv; have HRows := Lib.hid hrows; have HNil := Lib.hid hnil; have HThere := Lib.hid hthere; have HBw := Lib.hid hbw
          clear hrow hsv hrows hnil hthere hbw
          go_wp2_with fail
          refine HIk.out.mono ?_; rintro e w3 ⟨r, rfl, hfa, rfl⟩
          by_cases hr : r < 0
          · have hnm : (k : Int) ∉ to := by
              rcases hfa with ⟨_, h⟩ | ⟨h, _⟩
              · exact h
              · omega
            obtain ⟨e1, e2⟩ := HNo.out k hlt hnm
            subst e1
            subst e2
            clear hfa hnm
            go_wp2_with fail
            go_ret2
            exact ⟨_, rfl, RowsSl.nil _, HBw.out⟩
          · obtain ⟨i, rfl⟩ := Int.eq_ofNat_of_zero_le (show 0 ≤ r by omega)
            obtain ⟨f1, f2, f3⟩ := first_pos hfa (by omega)
            rw [Int.toNat_natCast] at f1 f3
            rw [HN.out] at f1
            have HMem := Lib.hid f2
            have HRk := Lib.hid (HRen.out k i f3)
            have hii : (i : Int) < (n : Int) := by omega
            have hi0 : ¬ (i : Int) < 0 := by omega
            obtain ⟨gb, goff, ra, rcap, rfl, hcg, hnats⟩ := (HGr.out.below HBw.out) i (HGl.out i f1)
            have HFi := Lib.hid (HFit.out i)
            have hdi := HDeg.out i
            have HNats := Lib.hid hnats
            have HRaQ : Hid (∀ k, k < (succ G i).length → ∀ b off, ra = some ⟨b, off, none⟩ → b ≠ q) := Lib.hid fun m hm b off e => by
              obtain ⟨gb', goff', ra', rcap', e1, hcg', hn'⟩ := HGr.out i (HGl.out i f1)
              have hb' := keep hcg' HBw.out
              simp only [Option.some.injEq, Addr.mk.injEq, and_true] at e1
              obtain ⟨rfl, rfl⟩ := e1
              rw [hcg] at hb'
              simp only [Option.some.injEq, Value.slice.injEq] at hb'
              obtain ⟨rfl, _, _⟩ := hb'
              obtain ⟨b2, off2, e2, hc2⟩ := hn' m hm
              rw [e] at e2
              simp only [Option.some.injEq, Addr.mk.injEq, and_true] at e2
              have hlt2 : b2 < w.heap.size := block_lt_of_cell hc2
              omega
            clear f2 f3 hfa hr hnats
            generalize hSS : succ G i = ss at *
            clear hSS
            go_wp2_with fail
            obtain ⟨B, HBB⟩ : ∃ B, Hid (wr.heap.size = B) := ⟨_, Lib.hid rfl⟩
            have hqB : q < B := by have := HBB.out; omega
            have hnetq : tb ≠ q := by have h1 : tb < w.heap.size := block_lt_of_cell HC0.out; omega
            have HToR : Hid (∀ x, x < n → wr.cell? ⟨tb, toff + x, none⟩ = some (.int .i64 (to.getD x 0))) := Lib.hid fun x hx => by
              obtain ⟨tb', toff', e, hc'⟩ := (HTo.out.below HBw.out) x (by rw [HN.out]; exact hx)
              simp only [Option.some.injEq, Addr.mk.injEq, and_true] at e
              obtain ⟨rfl, rfl⟩ := e
              exact hc'
            clear hcg
            go_loopw [46] (fun j ws => ∃ m : Nat, m ≤ ss.length ∧ j = .int .i64 m ∧ ∃ val, VRow ws q n (upd f k val) ∧ Save q wr ws ∧ ws.ownsRow B 3 1 val m (encI ((ss.map fun x => to.getD x 0).take m))) (fun j _ => ss.length - (intOf j).toNat)
            case atStart => exact ⟨0, Nat.zero_le _, rfl, .slice none 0 0, by rw [upd_same (HNil.out k (Nat.le_refl _))]; exact HRow.out, Save.refl _ _, World.ownsRow_nil _ _ _ _⟩
            case round =>
              obtain ⟨m, hm, rfl, val, hrow2, hsv2, hown⟩ := hrel
              by_cases hmt : m < ss.length
              · have hmi : (m : Int) < (ss.length : Int) := by omega
                obtain ⟨rb, roff, rfl, hcx⟩ := hsv2.nats HNats.out HRaQ.out m hmt
                have hxl := HFi.out _ (getD_mem hmt)
                have HTk : Hid ((ss.map fun x => to.getD x 0).take (m + 1) = (ss.map fun x => to.getD x 0).take m ++ [to.getD (ss.getD m 0) 0]) := Lib.hid (by
                  rw [List.take_succ_eq_append_getElem (by simpa using hmt)]
                  simp [List.getD_eq_getElem?_getD, List.getElem?_eq_getElem hmt])
                have hcto0 := HToR.out _ hxl
                generalize ss.getD m 0 = x at *
                generalize to.getD x 0 = tx at *
                have hxi : (x : Int) < (n : Int) := by omega
                have hcto := hsv2.cell hnetq hcto0
                obtain ⟨va0, vc0, rfl⟩ := rowAt_form hown
                have hcq : wr.cell? ⟨q, k, none⟩ = some (.slice va0 m vc0) := by have := hrow2.cell hlt; rwa [upd_at] at this
                have hqw2 : q < wr.heap.size := hrow2.lt
                have hcqA : ∀ o, (wr.drew.alloc o).cell? ⟨q, k, none⟩ = some (.slice va0 m vc0) := fun o => by rw [World.cell?_alloc_lt _ _ _ (by exact hqw2)]; exact hcq
                have hcqB : ∀ o, (wr.alloc o).drew.cell? ⟨q, k, none⟩ = some (.slice va0 m vc0) := fun o => hcqA o
                have hctoA : ∀ o, (wr.alloc o).cell? ⟨tb, toff + x, none⟩ = some (.int .i64 tx) := fun o => by rw [World.cell?_alloc_lt _ _ _ (block_lt_of_cell hcto)]; exact hcto
                have hOwnA : ∀ o, (wr.alloc o).ownsRow B 3 1 (.slice va0 m vc0) m (encI ((ss.map fun x => to.getD x 0).take m)) := fun o => hown.alloc o
                have HOwnA := Lib.hid hOwnA; have HctoA := Lib.hid hctoA; have HRow2 := Lib.hid hrow2; have HSv2 := Lib.hid hsv2; have HOwn := Lib.hid hown; have Hcto0 := Lib.hid hcto0
                have HSz : Hid (B ≤ wr.heap.size) := Lib.hid (by have := HBB.out; have := hsv2.size; omega)
                clear hrow2 hsv2 hown hOwnA hctoA hcto0
                go_wp2_with fail
                refine wp_region_held_drew (S := (fun w' => w'.cell? ⟨tb, toff + x, none⟩ = some (.int .i64 tx))) (by kernel_rfl) hcto (fun hHeld => ?_)
                refine wpAnyH_take (i := 0) (v := ?v0) (by simp only [List.getElem?_toArray, List.getElem?_cons_zero]; rfl) (by kernel_rfl) (by kernel_rfl) (by kernel_rfl) (by exact fun _ _ _ h => h) (Or.inl ⟨by rfl, ?hy0⟩) (by assumption) ?_
                case hy0 => intro w hSw; (try dsimp only at hSw); go_simp; try with_reducible rfl
                try simp only [Act.put, List.setIfInBounds_toArray, List.set_cons_zero, List.set_cons_succ]
                refine wpAnyH_take (i := 1) (v := ?v1) (by simp only [List.getElem?_toArray, List.getElem?_cons_zero, List.getElem?_cons_succ]; rfl) (by kernel_rfl) (by kernel_rfl) (by kernel_rfl) (by exact fun _ _ _ h => h) (Or.inl ⟨by rfl, ?hy1⟩) (by assumption) ?_
                case hy1 => intro w hSw; (try dsimp only at hSw); go_simp; try with_reducible rfl
                try simp only [Act.put, List.setIfInBounds_toArray, List.set_cons_zero, List.set_cons_succ]
                refine wpAnyH_take (i := 2) (v := ?v2) (by simp only [List.getElem?_toArray, List.getElem?_cons_zero, List.getElem?_cons_succ]; rfl) (by kernel_rfl) (by kernel_rfl) (by kernel_rfl) (by exact fun _ _ _ h => h) (Or.inl ⟨by rfl, ?hy2⟩) (by assumption) ?_
                case hy2 => intro w hSw; (try dsimp only at hSw); go_simp; try with_reducible rfl
                try simp only [Act.put, List.setIfInBounds_toArray, List.set_cons_zero, List.set_cons_succ]
                refine wpAnyH_take (i := 3) (v := ?v3) (by simp only [List.getElem?_toArray, List.getElem?_cons_zero, List.getElem?_cons_succ]; rfl) (by kernel_rfl) (by kernel_rfl) (by kernel_rfl) (by exact fun _ _ _ h => h) (Or.inl ⟨by rfl, ?hy3⟩) (by assumption) ?_
                case hy3 => intro w hSw; (try dsimp only at hSw); go_simp; try with_reducible rfl
                try simp only [Act.put, List.setIfInBounds_toArray, List.set_cons_zero, List.set_cons_succ]
                refine wpAnyH_take (i := 4) (v := ?v4) (by simp only [List.getElem?_toArray, List.getElem?_cons_zero, List.getElem?_cons_succ]; rfl) (by kernel_rfl) (by kernel_rfl) (by kernel_rfl) (by exact fun _ _ _ h => h) (Or.inl ⟨by rfl, ?hy4⟩) (by assumption) ?_
                case hy4 => intro w hSw; (try dsimp only at hSw); go_simp; try with_reducible rfl
                try simp only [Act.put, List.setIfInBounds_toArray, List.set_cons_zero, List.set_cons_succ]
                refine wpAnyH_take (i := 6) (v := ?v6) (by simp only [List.getElem?_toArray, List.getElem?_cons_zero, List.getElem?_cons_succ]; rfl) (by kernel_rfl) (by kernel_rfl) (by kernel_rfl) (by exact fun _ _ _ h => h) (Or.inl ⟨by rfl, ?hy6⟩) (by assumption) ?_
                case hy6 => intro w hSw; (try dsimp only at hSw); go_simp; try with_reducible rfl
                try simp only [Act.put, List.setIfInBounds_toArray, List.set_cons_zero, List.set_cons_succ]
                refine wpAnyH_take (i := 7) (v := ?v7) (by simp only [List.getElem?_toArray, List.getElem?_cons_zero, List.getElem?_cons_succ]; rfl) (by kernel_rfl) (by kernel_rfl) (by kernel_rfl) (by exact fun _ _ _ h => h) (Or.inl ⟨by rfl, ?hy7⟩) (by assumption) ?_
                case hy7 => intro w hSw; (try dsimp only at hSw); go_simp; try with_reducible rfl
                try simp only [Act.put, List.setIfInBounds_toArray, List.set_cons_zero, List.set_cons_succ]
                refine wpAnyH_take (i := 8) (v := ?v8) (by simp only [List.getElem?_toArray, List.getElem?_cons_zero, List.getElem?_cons_succ]; rfl) (by kernel_rfl) (by kernel_rfl) (by kernel_rfl) (by exact fun _ _ _ h => h) (Or.inl ⟨by rfl, ?hy8⟩) (by assumption) ?_
                case hy8 => intro w hSw; (try dsimp only at hSw); go_simp; try with_reducible rfl
                try simp only [Act.put, List.setIfInBounds_toArray, List.set_cons_zero, List.set_cons_succ]
                refine wpAnyH_take (i := 9) (v := ?v9) (by simp only [List.getElem?_toArray, List.getElem?_cons_zero, List.getElem?_cons_succ]; rfl) (by kernel_rfl) (by kernel_rfl) (by kernel_rfl) (by exact fun _ _ _ h => h) (Or.inl ⟨by rfl, ?hy9⟩) (by assumption) ?_
                case hy9 => intro w hSw; (try dsimp only at hSw); go_simp; try with_reducible rfl
                try simp only [Act.put, List.setIfInBounds_toArray, List.set_cons_zero, List.set_cons_succ]
                refine wpAnyH_ready (rs := [5, 10]) (by kernel_rfl) (by simp) ?_
                refine AllReadyH.cons (by simp only [List.getElem?_toArray, List.getElem?_cons_zero, List.getElem?_cons_succ]; rfl) (fun K hK => ?_) (AllReadyH.cons (by simp only [List.getElem?_toArray, List.getElem?_cons_zero, List.getElem?_cons_succ]; rfl) (fun K hK => ?_) AllReadyH.nil)
                · go_simp
                  refine hK.out _ _ hcto (fun hHeld2 => ?_)
                  clear hK K
                  try simp only [Act.put, List.setIfInBounds_toArray, List.set_cons_zero, List.set_cons_succ]
                  refine wpAnyH_ready (rs := [10]) (by kernel_rfl) (by simp) ?_
                  refine AllReadyH.cons (by simp only [List.getElem?_toArray, List.getElem?_cons_zero, List.getElem?_cons_succ]; rfl) (fun K hK => ?_) AllReadyH.nil
                  go_simp
                  refine hK.out _ _ (HctoA.out _) (fun hHeld5 => ?_)
                  clear hK K
                  try simp only [Act.put, List.setIfInBounds_toArray, List.set_cons_zero, List.set_cons_succ]
                  refine wpAnyH_ready (rs := [11]) (by kernel_rfl) (by simp) ?_
                  refine AllReadyH.cons (by simp only [List.getElem?_toArray, List.getElem?_cons_zero, List.getElem?_cons_succ]; rfl) (fun K hK => ?_) AllReadyH.nil
                  refine step_append_own rfl _ _ 32 rfl B 3 i0 (.int .i64 0) 1 8 Try.underlying32 hi hz0 hz1 hz2 rfl (by decide) _ _ _ rfl (HOwnA.out _) ⟨wr.heap.size, 0, none⟩ 1 1 [.int .i64 tx] rfl rfl (cell_one_new _ _ _) one_int (by unfold maxLen; omega) (by omega) (by have := HSz.out; simp; omega) ?_
                  intro v' w3 hown3 hgrow
                  have hgrow1 : (wr.alloc (.cells #[.int .i64 tx] 3)).grownBy w3 _ := ⟨hgrow.os, hgrow.tape, hgrow.output, hgrow.size, hgrow.block⟩
                  obtain ⟨va, vc, rfl⟩ := rowAt_form hown3
                  have hS3 := save_grown HSv2.out hgrow1 (fun j hj => by have := (HOwn.out.lt j hj).1; have := HBB.out; omega)
                  have hT3 := hS3.cell hnetq Hcto0.out
                  have hV3 := (HRow2.out.alloc _).grown hgrow1 (fun j hj => by have := (HOwn.out.lt j hj).1; omega)
                  have hF3 := hV3.free k
                  have hC3 : w3.cell? ⟨q, k, none⟩ = some (.slice va0 m vc0) := by have := hV3.cell hlt; rwa [upd_at] at this
                  have HV3 := Lib.hid hV3; have HS3 := Lib.hid hS3; have HO3 := Lib.hid hown3
                  clear hV3 hS3 hown3 hgrow hgrow1
                  try go_simp
                  refine hK.out _ _ hT3 (fun hHeld3 => ?_)
                  clear hK K
                  try simp only [Act.put, List.setIfInBounds_toArray, List.set_cons_zero, List.set_cons_succ]
                  refine wpAnyH_take (i := 12) (v := ?v12a) (by simp only [List.getElem?_toArray, List.getElem?_cons_zero, List.getElem?_cons_succ]; rfl) (by kernel_rfl) (by kernel_rfl) (by kernel_rfl) (by exact fun _ _ _ h => h) (Or.inl ⟨by rfl, ?hy12a⟩) (by assumption) ?_
                  case hy12a => intro w hSw; (try dsimp only at hSw); go_simp; try with_reducible rfl
                  try simp only [Act.put, List.setIfInBounds_toArray, List.set_cons_zero, List.set_cons_succ]
                  refine wpAnyH_ready (rs := [13]) (by kernel_rfl) (by simp) ?_
                  refine AllReadyH.cons (by simp only [List.getElem?_toArray, List.getElem?_cons_zero, List.getElem?_cons_succ]; rfl) (fun K hK => ?_) AllReadyH.nil
                  go_simp
                  refine hK.out _ _ ((Save.set q k w3 _).cell hnetq hT3) (fun hHeld4 => ?_)
                  clear hK K
                  try simp only [Act.put, List.setIfInBounds_toArray, List.set_cons_zero, List.set_cons_succ]
                  refine wpAnyH_done (by kernel_rfl) ?_ _
                  go_wp2_with fail
                  go_roundw
                  case rel => exact ⟨m + 1, by omega, by go_num, .slice va (m + 1) vc, by have := HV3.out.set k (.slice va (m + 1) vc); rwa [upd_upd] at this, HS3.out.trans (Save.set q k w3 _), by rw [HTk.out, encI_snoc]; exact ownsRow_setCell_below HO3.out (a := ⟨q, k, none⟩) hqB _⟩
                  case measure => simp [intOf]; omega
                · go_simp
                  refine hK.out _ _ (HctoA.out _) (fun hHeld2 => ?_)
                  clear hK K
                  try simp only [Act.put, List.setIfInBounds_toArray, List.set_cons_zero, List.set_cons_succ]
                  refine wpAnyH_ready (rs := [5]) (by kernel_rfl) (by simp) ?_
                  refine AllReadyH.cons (by simp only [List.getElem?_toArray, List.getElem?_cons_zero, List.getElem?_cons_succ]; rfl) (fun K hK => ?_) AllReadyH.nil
                  go_simp
                  refine hK.out _ _ (HctoA.out _) (fun hHeld5 => ?_)
                  clear hK K
                  try simp only [Act.put, List.setIfInBounds_toArray, List.set_cons_zero, List.set_cons_succ]
                  refine wpAnyH_ready (rs := [11]) (by kernel_rfl) (by simp) ?_
                  refine AllReadyH.cons (by simp only [List.getElem?_toArray, List.getElem?_cons_zero, List.getElem?_cons_succ]; rfl) (fun K hK => ?_) AllReadyH.nil
                  refine step_append_own rfl _ _ 32 rfl B 3 i0 (.int .i64 0) 1 8 Try.underlying32 hi hz0 hz1 hz2 rfl (by decide) _ _ _ rfl (HOwnA.out _) ⟨wr.heap.size, 0, none⟩ 1 1 [.int .i64 tx] rfl rfl (cell_one_new _ _ _) one_int (by unfold maxLen; omega) (by omega) (by have := HSz.out; simp; omega) ?_
                  intro v' w3 hown3 hgrow
                  have hgrow1 : (wr.alloc (.cells #[.int .i64 tx] 3)).grownBy w3 _ := ⟨hgrow.os, hgrow.tape, hgrow.output, hgrow.size, hgrow.block⟩
                  obtain ⟨va, vc, rfl⟩ := rowAt_form hown3
                  have hS3 := save_grown HSv2.out hgrow1 (fun j hj => by have := (HOwn.out.lt j hj).1; have := HBB.out; omega)
                  have hT3 := hS3.cell hnetq Hcto0.out
                  have hV3 := (HRow2.out.alloc _).grown hgrow1 (fun j hj => by have := (HOwn.out.lt j hj).1; omega)
                  have hF3 := hV3.free k
                  have hC3 : w3.cell? ⟨q, k, none⟩ = some (.slice va0 m vc0) := by have := hV3.cell hlt; rwa [upd_at] at this
                  have HV3 := Lib.hid hV3; have HS3 := Lib.hid hS3; have HO3 := Lib.hid hown3
                  clear hV3 hS3 hown3 hgrow hgrow1
                  try go_simp
                  refine hK.out _ _ hT3 (fun hHeld3 => ?_)
                  clear hK K
                  try simp only [Act.put, List.setIfInBounds_toArray, List.set_cons_zero, List.set_cons_succ]
                  refine wpAnyH_take (i := 12) (v := ?v12b) (by simp only [List.getElem?_toArray, List.getElem?_cons_zero, List.getElem?_cons_succ]; rfl) (by kernel_rfl) (by kernel_rfl) (by kernel_rfl) (by exact fun _ _ _ h => h) (Or.inl ⟨by rfl, ?hy12b⟩) (by assumption) ?_
                  case hy12b => intro w hSw; (try dsimp only at hSw); go_simp; try with_reducible rfl
                  try simp only [Act.put, List.setIfInBounds_toArray, List.set_cons_zero, List.set_cons_succ]
                  refine wpAnyH_ready (rs := [13]) (by kernel_rfl) (by simp) ?_
                  refine AllReadyH.cons (by simp only [List.getElem?_toArray, List.getElem?_cons_zero, List.getElem?_cons_succ]; rfl) (fun K hK => ?_) AllReadyH.nil
                  go_simp
                  refine hK.out _ _ ((Save.set q k w3 _).cell hnetq hT3) (fun hHeld4 => ?_)
                  clear hK K
                  try simp only [Act.put, List.setIfInBounds_toArray, List.set_cons_zero, List.set_cons_succ]
                  refine wpAnyH_done (by kernel_rfl) ?_ _
                  go_wp2_with fail
                  go_roundw
                  case rel => exact ⟨m + 1, by omega, by go_num, .slice va (m + 1) vc, by have := HV3.out.set k (.slice va (m + 1) vc); rwa [upd_upd] at this, HS3.out.trans (Save.set q k w3 _), by rw [HTk.out, encI_snoc]; exact ownsRow_setCell_below HO3.out (a := ⟨q, k, none⟩) hqB _⟩
                  case measure => simp [intOf]; omega
              · obtain rfl : m = ss.length := by omega
                have hfin : RowAt wr q val ((ss.map fun x => to.getD x 0)) := by
                  rw [List.take_of_length_le (by simp)] at hown
                  exact rowAt_owns (by rw [List.length_map]; exact hown) hqB
                have HFin := Lib.hid hfin; have HRow2 := Lib.hid hrow2; have HSv2 := Lib.hid hsv2
                clear hown hfin hrow2 hsv2
                go_wp2_with fail
                go_roundw
                case rel => exact ⟨k + 1, by omega, by go_num, upd f k val, HRow2.out, HSv.out.trans HSv2.out, fun j hj => by
                  by_cases c : j = k
                  · subst c; rw [upd_at, HRk.out]; exact HFin.out
                  · rw [upd_ne c]; exact (HRows.out j (by omega)).save HSv2.out, fun j hj => by rw [upd_ne (by omega)]; exact HNil.out j (by omega), fun j hj => by
                  by_cases c : j = k
                  · subst c; exact HMem.out
                  · exact HThere.out j (by omega)⟩
                case measure => simp [intOf]; omega
        · obtain rfl : k = n := by omega
          obtain ⟨e1, e2⟩ := HYes.out hthere
          subst e1
          subst e2
          have HRes := Lib.hid (rowsSl_made hrow hrows); have HBw := Lib.hid (HB2.out.trans (hsv.below hqw HB2.out.size))
          have hll : ((List.range k).map RI).length = k := by simp
          clear hrow hrows hsv hnil hthere
          go_wp2_with fail
          go_ret2
          exact ⟨_, rfl, HRes.out, HBw.out⟩
    · have hp : permB to g.length = false := by
        rw [← Bool.not_eq_true, permB_iff]
        exact fun c => hhead ⟨c.1, c.2.1⟩
      obtain ⟨e1, e2⟩ := renE_not hv hp
      rw [e1, e2]; rw [hv] at HV
      by_cases hlen : to.length = g.length
      · have hne : to.getD 0 0 ≠ 0 := fun c => hhead ⟨hlen, c⟩
        obtain ⟨tb, toff, rfl, hc⟩ := ht 0 (by omega)
        have HC := Lib.hid hc
        rw [hlen] at *
        have hneb : (to.getD 0 0 == 0) = false := by rw [beq_eq_false_iff_ne]; exact hne
        have hgi : (0 : Int) < (g.length : Int) := by omega
        clear hc ht hin hs hv ok hhead hp e1 e2 hlen
        generalize to.getD 0 0 = t0 at *
        go_enter Try.func31, Try.ntmps31
        go_wp2_with fail
        refine HV.out.mono ?_; rintro e w1 ⟨rfl, hb1⟩
        have hc1 := keep HC.out hb1
        rw [Nat.add_zero] at hc1
        go_wp2_with fail
        go_ret2
        exact ⟨_, rfl, RowsSl.nil _, hb1⟩
      · have hneb : ((to.length : Int) == (g.length : Int)) = false := by rw [beq_eq_false_iff_ne]; omega
        clear ht hin hs hv ok hhead hp e1 e2
        go_enter Try.func31, Try.ntmps31
        go_wp2_with fail
        refine HV.out.mono ?_; rintro e w1 ⟨rfl, hb1⟩
        go_wp2_with fail
        go_ret2
        exact ⟨_, rfl, RowsSl.nil _, hb1⟩
  · have e1 : renE g to = validE g := by unfold renE; rw [if_neg hv]
    have e2 : renL g to = [] := by unfold renL; rw [e1, if_neg hv]
    rw [e1, e2]
    generalize validE g = E at *
    have hvb : (E == 0) = false := by rw [beq_eq_false_iff_ne]; exact hv
    clear hin hs ht e1 e2
    go_enter Try.func31, Try.ntmps31
    go_wp2_with fail
    refine HV.out.mono ?_; rintro e w1 ⟨rfl, hb1⟩
    go_wp2_with fail
    go_ret2
    exact ⟨_, rfl, RowsSl.nil _, hb1⟩
end Go.Proofs.Ytmljmmnofhhheaa
