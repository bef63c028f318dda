/- The walk of pick's Live. -/
import Derived.Test.YtjfpaelmcepidaaQD
namespace Go.Proofs.Ytjfpaelmcepidaa.PK
open Go.RowKit Go.Shelf
attribute [local go_sem] Oper.semAt_some

set_option maxRecDepth 100000 in
set_option maxHeartbeats 8000000 in
theorem sLive_ok (regs : Int) (ls : List (List Cd)) (bl : Option Addr) (cap : Nat) (w : World) (hin : BlkIn w bl ls) (hv : progErrW regs ls = 0) (hlm : ∀ k, k < ls.length → (atB ls k).length ≤ 9223372036854775807) :
    Calls Try.prog 23 #[.agg #[.int .i64 regs, .slice bl ls.length cap]] w (LvPost regs ls w) := by
  obtain ⟨hbig, hcode, _⟩ := prog_partsW hv
  have hb2 : 0 ≤ regs ∧ regs ≤ 200 ∧ 1 ≤ ls.length ∧ ls.length ≤ 400 := by unfold tooBigW at hbig; omega
  obtain ⟨hr0, hr1, hn0, hn1⟩ := hb2
  obtain ⟨rn, hrn⟩ : ∃ rn : Nat, regs = rn := ⟨regs.toNat, by omega⟩
  subst hrn
  have hrn2 : rn ≤ 200 := by omega
  have HV := Lib.hid (fun u (h : BlkIn u bl ls) => (by have h1 := ValidateW_any rn ls bl cap u h (by omega) hlm; rw [hv] at h1; exact h1 : Calls Try.prog 21 #[.agg #[.int .i64 rn, .slice bl ls.length cap]] u fun e w' => e = .returned (.int .i64 0) ∧ Below u.heap.size u w'))
  have HLd := Lib.hid (leads_of hcode)
  have HCd := Lib.hid hcode
  have HLm := Lib.hid hlm
  have HI := Lib.hid hin
  have HVv := Lib.hid hv
  have hmb := run_make_row' (P := Try.prog) 83 4 (.bool false) 1 Try.underlying83 infoBool rfl .i64 .i64 rn (by omega) (by omega)
  have hmr := run_make_row' (P := Try.prog) 101 83 (.slice none 0 0) 24 Try.underlying101 infoRowB rfl .i64 .i64 ls.length (by omega) (by omega)
  obtain ⟨i0, hi, ip0, ip1, ip2⟩ := info_parts Try.infoInt
  obtain ⟨j0, hj, jp0, jp1, jp2⟩ := info_parts infoRow1
  clear hin hv hbig hcode hlm
  refine (callsIn_wide (n := 3)).1 ?_
  refine callsIn_of_wp_marks Try.func23 rfl trivial ?_ rfl
  simp only [Try.ntmps23, List.size_toArray, List.length_cons, List.length_nil, Nat.reduceAdd, Nat.reduceSub, Array.replicate_succ, Array.replicate_zero, List.push_toArray, List.append_toArray, List.nil_append, List.cons_append]
  gi_wp2_with fail
  have HB0 : Hid (Below w.heap.size w (w.alloc (.cells #[.int .i64 rn, .slice bl ls.length cap] 24))) := Lib.hid ((Below.refl _ _).alloc (Nat.le_refl _) _)
  have hp0 : (w.alloc (.cells #[.int .i64 rn, .slice bl ls.length cap] 24)).cell? ⟨w.heap.size, 0, none⟩ = some (.int .i64 rn) := by simp [go_sem]
  have hp1 : (w.alloc (.cells #[.int .i64 rn, .slice bl ls.length cap] 24)).cell? ⟨w.heap.size, 1, none⟩ = some (.slice bl ls.length cap) := by simp [go_sem]
  generalize w.alloc (.cells #[.int .i64 rn, .slice bl ls.length cap] 24) = w0 at *
  generalize hpq : w.heap.size = pq at hp0 hp1
  have hpq2 : pq < w0.heap.size := block_lt_of_cell hp0
  subst hpq
  refine ⟨trivial, ?_⟩
  refine (callsIn_wide.2 (HV.out _ (HI.out.below HB0.out))).mono ?_; rintro e w1 ⟨rfl, hb1⟩
  have HB1 := Lib.hid (HB0.out.trans (hb1.mono HB0.out.size))
  have hp0 := keep hp0 hb1; have hp1 := keep hp1 hb1
  have hpw : Hid (w.heap.size < w1.heap.size) := Lib.hid (block_lt_of_cell hp0)
  have HP0 := Lib.hid hp0; have HP1 := Lib.hid hp1
  clear hb1 HB0 HV hpq2
  gi_wp2_with fail
  have HMk := Lib.hid (mk_start w1 ls.length rn)
  clear hp0 hp1
  gi_loopw [28] (fun c wr => ∃ b : Nat, b ≤ ls.length ∧ c = .int .i64 b ∧ MkS w1 ls.length rn b wr) (fun c _ => ls.length - (intOf c).toNat)
  case atStart => exact ⟨0, Nat.zero_le _, rfl, HMk.out⟩
  case round =>
    obtain ⟨b, hb, rfl, g, hM⟩ := hrel
    have HM := Lib.hid hM
    have hbx := hM.box.cell
    by_cases hlt : b < ls.length
    · have hq0 := keep HP0.out hM.low
      have hc := TRow.cell hM.head hlt
      have hf := TRow.free hM.head b
      rw [if_neg (Nat.lt_irrefl b)] at hc
      have hbl : (b : Int) < (ls.length : Int) := by omega
      clear hM
      gi_wp2_with fail
      refine wpIn_wide.2 ?_
      have hpne : w.heap.size ≠ w1.heap.size := Nat.ne_of_lt hpw.out
      have hc2 : (wr.alloc (.cells (madeCells #[.bool false] rn) 4)).cell? ⟨w1.heap.size, b, none⟩ = some (.slice none 0 0) := keep hc ((Below.refl _ _).alloc (Nat.le_refl _) _)
      have hf2 : (wr.alloc (.cells (madeCells #[.bool false] rn) 4)).frozen? ⟨w1.heap.size, b, none⟩ = false := TRow.free (TRow.below HM.out.head ((Below.refl _ _).alloc (Nat.le_refl _) (.cells (madeCells #[.bool false] rn) 4))) b
      refine wp_region_noPanic ?_
      refine wp_region_held_drew (S := fun w' => w'.cell? ⟨w1.heap.size + 1, 0, none⟩ = some (.slice (some ⟨w1.heap.size, 0, none⟩) ls.length ls.length) ∧ w'.cell? ⟨w.heap.size, 0, none⟩ = some (.int .i64 rn)) (by kernel_rfl) (held_2 ⟨hbx, hq0⟩ (below_drew1 (Below.refl _ _))) (fun hHeld => ?_)
      refine wpAnyH_take (i := 0) (v := ?v0a) (by simp only [List.getElem?_toArray, List.getElem?_cons_zero]; rfl) (by kernel_rfl) (by kernel_rfl) (by kernel_rfl) (by exact fun _ _ _ h => h) (Or.inl ⟨by rfl, ?hy0a⟩) (by assumption) ?_
      case hy0a => intro w hSw; (try dsimp only at hSw); go_simp; try with_reducible rfl
      try simp only [Act.put, List.setIfInBounds_toArray, List.set_cons_zero, List.set_cons_succ]
      refine wpAnyH_take (i := 1) (v := ?v1a) (by simp only [List.getElem?_toArray, List.getElem?_cons_zero, List.getElem?_cons_succ]; rfl) (by kernel_rfl) (by kernel_rfl) (by kernel_rfl) (by exact fun _ _ _ h => h) (Or.inl ⟨by rfl, ?hy1a⟩) (by assumption) ?_
      case hy1a => intro w hSw; (try dsimp only at hSw); go_simp; try with_reducible rfl
      try simp only [Act.put, List.setIfInBounds_toArray, List.set_cons_zero, List.set_cons_succ]
      refine wpAnyH_take (i := 2) (v := ?v2a) (by simp only [List.getElem?_toArray, List.getElem?_cons_zero, List.getElem?_cons_succ]; rfl) (by kernel_rfl) (by kernel_rfl) (by kernel_rfl) (by exact fun _ _ _ h => h) (Or.inl ⟨by rfl, ?hy2a⟩) (by assumption) ?_
      case hy2a => intro w hSw; (try dsimp only at hSw); go_simp; try with_reducible rfl
      try simp only [Act.put, List.setIfInBounds_toArray, List.set_cons_zero, List.set_cons_succ]
      refine wpAnyH_take (i := 3) (v := ?v3a) (by simp only [List.getElem?_toArray, List.getElem?_cons_zero, List.getElem?_cons_succ]; rfl) (by kernel_rfl) (by kernel_rfl) (by kernel_rfl) (by exact fun _ _ _ h => h) (Or.inl ⟨by rfl, ?hy3a⟩) (by assumption) ?_
      case hy3a => intro w hSw; (try dsimp only at hSw); go_simp; try with_reducible rfl
      try simp only [Act.put, List.setIfInBounds_toArray, List.set_cons_zero, List.set_cons_succ]
      refine wpAnyH_ready (rs := [4]) (by kernel_rfl) (by simp) ?_
      refine AllReadyH.cons (by simp only [List.getElem?_toArray, List.getElem?_cons_zero, List.getElem?_cons_succ]; rfl) (fun K hK => ?_) AllReadyH.nil
      go_simp
      refine hK.out _ _ (held_2 ⟨hbx, hq0⟩ (below_drew1 ((Below.refl _ _).alloc (Nat.le_refl _) _))) (fun hHeld2 => ?_)
      clear hK K
      try simp only [Act.put, List.setIfInBounds_toArray, List.set_cons_zero, List.set_cons_succ]
      refine wpAnyH_ready (rs := [5]) (by kernel_rfl) (by simp) ?_
      refine AllReadyH.cons (by simp only [List.getElem?_toArray, List.getElem?_cons_zero, List.getElem?_cons_succ]; rfl) (fun K hK => ?_) AllReadyH.nil
      go_simp
      refine hK.out _ _ hHeld2 (fun hHeld4 => ?_)
      clear hK K
      try simp only [Act.put, List.setIfInBounds_toArray, List.set_cons_zero, List.set_cons_succ]
      refine wpAnyH_ready (rs := [6]) (by kernel_rfl) (by simp) ?_
      refine AllReadyH.cons (by simp only [List.getElem?_toArray, List.getElem?_cons_zero, List.getElem?_cons_succ]; rfl) (fun K hK => ?_) AllReadyH.nil
      go_simp
      refine hK.out _ _ (held_2 (held_2s (by omega) hpne (held_2 ⟨hbx, hq0⟩ ((Below.refl _ _).alloc (Nat.le_refl _) _))) (below_drew1 (Below.refl _ _))) (fun hHeld3 => ?_)
      clear hK K
      try simp only [Act.put, List.setIfInBounds_toArray, List.set_cons_zero, List.set_cons_succ]
      refine wpAnyH_done (by kernel_rfl) ?_ _
      refine NoPanic.normal ?_
      have HNx := Lib.hid (mk_step HM.out)
      clear hc hf
      gi_wp2_with fail
      go_roundw
      case rel => exact ⟨b + 1, by omega, by go_num, HNx.out⟩
      case measure => simp [intOf]; omega
    · have hbe : b = ls.length := by omega
      subst hbe
      clear hM
      gi_wp2_with fail
      have HA0 := Lib.hid (ag_first HM.out)
      generalize wr.heap.size = Ag0 at *
      generalize wr.alloc (.cells #[.bool true] 4) = w2 at *
      obtain ⟨Inv, hInv⟩ : ∃ Inv : Act → World → Prop, ∀ a' wx, Inv a' wx ↔ ∃ (Ag : Nat) (Ds : List Nat) (S : Nat → Nat → Bool) (g : Nat → Nat) (ag : Bool) (c8 c9 c10 c38 c39 c40 c41 c42 c43 c44 c45 c46 c47 c48 c49 c50 c51 c52 c53 c54 c55 c56 c57 c58 c59 c60 c61 c62 c63 : Value), a' = { tmps := #[.agg #[.int .i64 rn, .slice bl ls.length cap], .pointer (some ⟨w.heap.size, 0, none⟩), .slice none 0 0, .int .i64 0, .int .i64 0, .pointer (some ⟨w1.heap.size + 1, 0, none⟩), u6, .pointer (some ⟨Ag, 0, none⟩), c8, c9, c10, undef, undef, undef, undef, undef, undef, .agg #[.int .i64 rn, .slice bl ls.length cap], .int .i64 0, .int .i64 0, .bool false, undef, .pointer (some ⟨w.heap.size, 1, none⟩), .slice bl ls.length cap, .int .i64 ls.length, .slice (some ⟨w1.heap.size, 0, none⟩) ls.length ls.length, .slice (some ⟨w1.heap.size, 0, none⟩) ls.length ls.length, .int .i64 ls.length, .int .i64 ls.length, .bool false, u30, u31, u32, u33, u34, u35, u36, u37, c38, c39, c40, c41, c42, c43, c44, c45, c46, c47, c48, c49, c50, c51, c52, c53, c54, c55, c56, c57, c58, c59, c60, c61, c62, c63, undef, undef, undef, undef, undef, undef, undef, undef, undef, undef, undef, undef, undef, undef, undef, undef, undef, undef, undef, undef, undef, undef, undef, undef, undef], defers := marks Ds } ∧ AgI w1 ls rn Ag Ds S g ag wx := ⟨_, fun _ _ => Iff.rfl⟩
      have HInv := Lib.hid hInv; clear hInv
      refine wpIn_loop Inv (muAg w1.heap.size ls.length rn) ?start ?again
      case start => exact (HInv.out _ _).2 ⟨Ag0, [], _, g, true, undef, undef, undef, undef, undef, undef, undef, undef, undef, undef, undef, undef, undef, undef, undef, undef, undef, undef, undef, undef, undef, undef, undef, undef, undef, undef, undef, undef, undef, rfl, HA0.out⟩
      case again =>
        intro a' wx hinv
        obtain ⟨Ag, Ds, S, g, ag, c8, c9, c10, c38, c39, c40, c41, c42, c43, c44, c45, c46, c47, c48, c49, c50, c51, c52, c53, c54, c55, c56, c57, c58, c59, c60, c61, c62, c63, rfl, hA⟩ := (HInv.out _ _).1 hinv
        clear hinv
        have HA := Lib.hid hA
        have hag := hA.agc.cell
        cases ag
        · have hbx := hA.box.cell
          have HFx := Lib.hid (hA.fix rfl)
          have HRw := Lib.hid hA.rows
          have HMk := Lib.hid hA.mks
          have HLow := Lib.hid (HB1.out.trans (hA.low.mono HB1.out.size))
          have HLs := Lib.hid hA.low.size
          clear hA
          gi_wp2_with fail
          refine wpIn_wide.2 ?_
          have HPost : Hid (∀ v W', RowsOwn W' wx.heap.size v (rowsFn ls.length fun b => picks (S b) rn) → Below w.heap.size w W' → LvPost rn ls w (.returned (.tuple #[v, .int .i64 0])) W') := Lib.hid (fun v W' h1 h2 => ⟨by
            rw [if_pos HVv.out]
            exact ⟨v, _, rfl, ⟨S, fun b hb r hr => HFx.out b r hb (by simpa using hr), by rw [Int.toNat_natCast]⟩, h1.base HLow.out.size⟩, h2⟩)
          go_loopw [11, 66] (fun v c wr => ∃ b : Nat, b ≤ ls.length ∧ c = .int .i64 b ∧ RowsOwn wr wx.heap.size v (rowsFn b fun b => picks (S b) rn) ∧ Below wx.heap.size wx wr) (fun _ c _ => ls.length - (intOf c).toNat)
          case atStart => exact ⟨0, Nat.zero_le _, rfl, RowsOwn.nil _ _, Below.refl _ _⟩
          case round =>
            obtain ⟨b, hb, rfl, hro, hbw⟩ := hrel
            by_cases hlt : b < ls.length
            · have hhd := TRow.cell (HRw.out.below hbw).head hlt
              have HRb := Lib.hid (TRow.below (HRw.out.rows b hlt) hbw)
              have HRo := Lib.hid hro; have HBw := Lib.hid hbw
              have hbl : (b : Int) < (ls.length : Int) := by omega
              clear hro hbw
              go_wp2_with fail
              clear hhd
              generalize wr = wo at *
              go_loopw [14, 72] (fun v c ws => ∃ r : Nat, r ≤ rn ∧ c = .int .i64 r ∧ ws.ownsRow wo.heap.size 3 1 v (picks (S b) r).length (encI (picks (S b) r)) ∧ Below wo.heap.size wo ws) (fun _ c _ => rn - (intOf c).toNat)
              case atStart => exact ⟨0, Nat.zero_le _, rfl, owns_nil _ _ _ _, Below.refl _ _⟩
              case round =>
                obtain ⟨r, hr, rfl, hown, hbs⟩ := hrel
                obtain ⟨va, vc, rfl⟩ := owns_shape hown
                obtain ⟨ws, rfl⟩ : ∃ ws : World, ws = wr := ⟨_, rfl⟩
                by_cases hlr : r < rn
                · have hcl := TRow.cell (TRow.below HRb.out hbs) hlr
                  have HPk := Lib.hid (picks_succ (S b) r)
                  have hpl := picks_len (S b) r
                  generalize hfb : S b r = fb at *
                  clear hfb
                  have HO5 := Lib.hid hown; have HBs5 := Lib.hid hbs
                  generalize picks (S b) r = f0 at *
                  have hlr2 : (r : Int) < (rn : Int) := by omega
                  clear hown hbs
                  cases fb
                  · go_wp2_with fail
                    go_roundw
                    case rel => exact ⟨r + 1, by omega, by go_num, by rw [HPk.out]; simpa using HO5.out, HBs5.out⟩
                    case measure => simp [intOf]; omega
                  · have HN6 := Lib.hid (cell_one_at ws (.int .i64 r) 3)
                    have HO6 := Lib.hid (HO5.out.alloc (.cells #[.int .i64 r] 3))
                    have HB6 := Lib.hid (HBs5.out.alloc HBs5.out.size (.cells #[.int .i64 r] 3))
                    have HS63 : Hid (f0.length + 1 ≤ maxLen) := Lib.hid (by unfold maxLen; omega)
                    have HSb : Hid ((f0.length + 1) * 8 ≤ 140737488355328) := Lib.hid (by omega)
                    have HZ6 : Hid (wo.heap.size ≤ (ws.alloc (.cells #[.int .i64 r] 3)).heap.size) := Lib.hid HB6.out.size
                    have HG5 : Hid (∀ g, (Value.slice va f0.length vc).ownBlock = some g → wo.heap.size ≤ g) := Lib.hid (fun g hg => (owns_block HO5.out hg).1)
                    go_wp2_with (at_builtin; refine wpList_append_own_at _ rfl _ _ 43 rfl wo.heap.size 3 i0 (.int .i64 0) 1 8 Try.underlying43 hi ip0 ip1 ip2 rfl (by decide) _ _ _ rfl HO6.out ⟨ws.heap.size, 0, none⟩ 1 1 [.int .i64 r] rfl rfl HN6.out (one_int _) HS63.out HSb.out HZ6.out ?_; intro v9 w9 hown9 hgrow9 _ _; obtain ⟨v9a, v9c, rfl⟩ := owns_shape hown9; have HO9 := Lib.hid hown9; have HB9 := Lib.hid (HB6.out.grown hgrow9 HZ6.out (fun g hg => HG5.out g hg)); clear hown9 hgrow9)
                    go_roundw
                    case rel => exact ⟨r + 1, by omega, by go_num, by rw [HPk.out, if_pos rfl, List.length_append, encI_snoc]; exact HO9.out, HB9.out⟩
                    case measure => simp [intOf]; omega
                · have hre : r = rn := by omega
                  subst hre
                  have hfl := picks_len (S b) r
                  have HSn := Lib.hid (rowsFn_snoc b fun b => picks (S b) r)
                  have hL := rowsFn_len b fun b => picks (S b) r
                  have hro := HRo.out.below hbs
                  generalize (rowsFn b fun b => picks (S b) r) = L at *
                  generalize hL1 : (rowsFn (b + 1) fun b => picks (S b) r) = L1 at *
                  have HL1 := Lib.hid hL1; clear hL1
                  have hL2 : L.length ≤ 400 := by omega
                  generalize picks (S b) r = f at *
                  obtain ⟨vals, hov, hra⟩ := hro
                  have HOv := Lib.hid hov; have HRa := Lib.hid hra
                  have HO := Lib.hid hown; have HBs := Lib.hid hbs
                  have HRg : Hid (∀ g, u11.ownBlock = some g → wx.heap.size ≤ g ∧ g < wo.heap.size) := Lib.hid (fun g hg => by obtain ⟨vals0, hov0, _⟩ := HRo.out; exact owns_block hov0 hg)
                  obtain ⟨ua, uc, hu5⟩ := owns_shape hov
                  subst hu5
                  have hvl := hov.1
                  have HN6 := Lib.hid (cell_one_at ws (.slice va f.length vc) 43)
                  have HO6 := Lib.hid (HOv.out.alloc (.cells #[.slice va f.length vc] 43))
                  have HB6 := Lib.hid ((Below.refl ws.heap.size ws).alloc (Nat.le_refl _) (.cells #[.slice va f.length vc] 43))
                  have HBw6 := Lib.hid ((HBw.out.trans (HBs.out.mono HBw.out.size)).alloc (Nat.le_trans HBw.out.size HBs.out.size) (.cells #[.slice va f.length vc] 43))
                  have HBz : Hid (wx.heap.size ≤ wo.heap.size) := Lib.hid HBw.out.size
                  have HZ6 : Hid (wx.heap.size ≤ (ws.alloc (.cells #[.slice va f.length vc] 43)).heap.size) := Lib.hid (Nat.le_trans HBz.out (Nat.le_trans HBs.out.size HB6.out.size))
                  have HS63 : Hid (L.length + 1 ≤ maxLen) := Lib.hid (by unfold maxLen; omega)
                  have HSb : Hid ((L.length + 1) * 24 ≤ 140737488355328) := Lib.hid (by omega)
                  clear hov hra hown hbs hvl hL
                  go_wp2_with (at_builtin; refine wpList_append_own_at _ rfl _ _ 61 rfl wx.heap.size 43 j0 (.slice none 0 0) 1 24 Try.underlying61 hj jp0 jp1 jp2 rfl (by decide) _ _ _ rfl HO6.out ⟨ws.heap.size, 0, none⟩ 1 1 [.slice va f.length vc] rfl rfl HN6.out (by simp [Value.oneCell']) HS63.out HSb.out HZ6.out ?_; intro v9 w9 hown9 hgrow9 _ hat9; have HO9 := Lib.hid hown9; have HG9 := Lib.hid hgrow9; have HA9 := Lib.hid hat9; clear hown9 hgrow9 hat9)
                  go_roundw
                  case rel => exact ⟨b + 1, by omega, by go_num, by rw [HL1.out, HSn.out]; exact RowsOwn.snoc_own HOv.out HRa.out (fun g hg => (HRg.out g hg).2) HBz.out HO.out HO9.out HG9.out HA9.out, HBw6.out.grown HG9.out HBw6.out.size (fun g hg => (HRg.out g hg).1)⟩
                  case measure => simp [intOf]; omega
            · have hbe : b = ls.length := by omega
              subst hbe
              have HF := Lib.hid (fun W' (ht : Turn (w1.heap.size + 2) wr W') => HPost.out _ W' (hro.turn ht) (ht.below (HLow.out.trans (hbw.mono HLow.out.size)) (by have := HB1.out.size; omega) (Nat.le_trans HLow.out.size hbw.size)))
              have HMw := Lib.hid (HMk.out.below hbw)
              clear hro hbw
              go_wp2_with fail
              gi_wp2_with fail
              exact leaves_marks (v := .tuple #[u11, .int .i64 0]) (fun W => by simp [results, Try.results23, go_sem]) Ds _ HMw.out HF.out
        · have hfz := hA.agc.frozen
          have hq1 := keep HP1.out hA.rg.low
          clear hA
          gi_wp2_with fail
          refine ⟨trivial, ?_⟩
          refine (callsIn_wide.2 (backB_any _ _ _ _)).mono ?_; rintro e w3 ⟨rfl, rfl⟩
          gi_wp2_with fail
          have HMu := Lib.hid (mu_is (a := { tmps := #[.agg #[.int .i64 rn, .slice bl ls.length cap], .pointer (some ⟨w.heap.size, 0, none⟩), .slice none 0 0, .int .i64 0, .int .i64 0, .pointer (some ⟨w1.heap.size + 1, 0, none⟩), u6, .pointer (some ⟨Ag, 0, none⟩), c8, c9, c10, undef, undef, undef, undef, undef, undef, .agg #[.int .i64 rn, .slice bl ls.length cap], .int .i64 0, .int .i64 0, .bool false, undef, .pointer (some ⟨w.heap.size, 1, none⟩), .slice bl ls.length cap, .int .i64 ls.length, .slice (some ⟨w1.heap.size, 0, none⟩) ls.length ls.length, .slice (some ⟨w1.heap.size, 0, none⟩) ls.length ls.length, .int .i64 ls.length, .int .i64 ls.length, .bool false, u30, u31, u32, u33, u34, u35, u36, u37, c38, c39, c40, c41, c42, c43, c44, c45, c46, c47, c48, c49, c50, c51, c52, c53, c54, c55, c56, c57, c58, c59, c60, c61, c62, c63, undef, undef, undef, undef, undef, undef, undef, undef, undef, undef, undef, undef, undef, undef, undef, undef, undef, undef, undef, undef, undef, undef, undef, undef, undef], defers := marks Ds }) HA.out rfl)
          have hsw : (wx.setCell ⟨Ag, 0, none⟩ (.bool false)).heap.size = wx.heap.size := by simp [World.setCell]
          have hAgx : Ag < wx.heap.size := lt_of_block HA.out.agc
          have hAgb := HA.out.rg.agb
          have hal := (Below.refl (wx.setCell ⟨Ag, 0, none⟩ (.bool false)).heap.size (wx.setCell ⟨Ag, 0, none⟩ (.bool false))).alloc (Nat.le_refl _) (.cells #[.slice bl ls.length cap] 22)
          have hrg := HA.out.rg.below hal
          have hbs : ((wx.setCell ⟨Ag, 0, none⟩ (.bool false)).alloc (.cells #[.slice bl ls.length cap] 22)).cell? ⟨wx.heap.size, 0, none⟩ = some (.slice bl ls.length cap) := by
            rw [World.cell?_alloc_at _ _ _ _ hsw.symm]; rfl
          have hsz : ((wx.setCell ⟨Ag, 0, none⟩ (.bool false)).alloc (.cells #[.slice bl ls.length cap] 22)).heap.size = wx.heap.size + 1 := by rw [World.size_alloc, hsw]
          have hDx : ∀ D ∈ Ds, D < wx.heap.size := fun D hD => lt_of_block (HA.out.mks.shut D hD).2
          clear hfz hq1 hal hag
          generalize (wx.setCell ⟨Ag, 0, none⟩ (.bool false)).alloc (.cells #[.slice bl ls.length cap] 22) = W2 at *
          obtain ⟨hd, hsl, hvals, hdl⟩ := blk_hd HI.out hn0
          have hw12 : w.heap.size < w1.heap.size := hpw.out
          have hw1x : w1.heap.size + 1 < wx.heap.size := by omega
          have hBW2 : Below w.heap.size w W2 := HB1.out.trans (hrg.low.mono HB1.out.size)
          refine wpIn_rangeFunc_list rfl (by omega) (gf := 90) (lb := #[.pointer (some ⟨wx.heap.size, 0, none⟩)]) rfl trivial (enters_of Try.func90 (by kernel_rfl) rfl)
            (backB_seq Fence.wide 2 trivial rfl (by omega) wx.heap.size bl cap ls.length hd hsl (by omega) w W2 hBW2 hvals (by omega) hbs) (by omega) (by omega) (fun _ => rfl)
            (fun k W => W2.heap.size ≤ W.heap.size ∧ RgS w1 ls rn Ag Ds S k W) (fun _ _ _ => False) (fun k A A' ht h => by
              obtain ⟨h0, S1, g1, ag1, h1⟩ := h
              exact ⟨Nat.le_trans h0 ht.size, S1, g1, ag1, h1.turn ht (by omega) (fun D hD => by have := hDx D hD; omega)⟩) (fun _ _ _ _ _ h => h) ⟨Nat.le_refl _, S, g, false, hrg⟩
            (fun k a' W => (W2.heap.size ≤ W.heap.size ∧ RgS w1 ls rn Ag Ds S k W) ∧ a' = { tmps := #[.agg #[.int .i64 rn, .slice bl ls.length cap], .pointer (some ⟨w.heap.size, 0, none⟩), .slice none 0 0, .int .i64 0, .int .i64 0, .pointer (some ⟨w1.heap.size + 1, 0, none⟩), u6, .pointer (some ⟨Ag, 0, none⟩), .int .i64 ((ls.length - 1 - k : Nat) : Int), hd (ls.length - 1 - k), c10, undef, undef, undef, undef, undef, undef, .agg #[.int .i64 rn, .slice bl ls.length cap], .int .i64 0, .int .i64 0, .bool false, undef, .pointer (some ⟨w.heap.size, 1, none⟩), .slice bl ls.length cap, .int .i64 ls.length, .slice (some ⟨w1.heap.size, 0, none⟩) ls.length ls.length, .slice (some ⟨w1.heap.size, 0, none⟩) ls.length ls.length, .int .i64 ls.length, .int .i64 ls.length, .bool false, u30, u31, u32, u33, u34, u35, u36, u37, .bool true, .pointer (some ⟨w.heap.size, 1, none⟩), .slice bl ls.length cap, .func (.func 90) #[] #[.pointer (some ⟨wx.heap.size, 0, none⟩)], .int .i64 ((ls.length - 1 - k : Nat) : Int), hd (ls.length - 1 - k), c44, c45, c46, c47, c48, c49, c50, c51, c52, c53, c54, c55, c56, c57, c58, c59, c60, c61, c62, c63, undef, undef, undef, undef, undef, undef, undef, undef, undef, undef, undef, undef, undef, undef, undef, undef, undef, undef, undef, undef, undef, undef, undef, undef, undef], defers := [] })
            (fun k a' A A' ht h => by
              obtain ⟨⟨h0, S1, g1, ag1, h1⟩, h2⟩ := h
              exact ⟨⟨Nat.le_trans h0 ht.size, S1, g1, ag1, h1.turn ht (by omega) (fun D hD => by have := hDx D hD; omega)⟩, h2⟩) ?assign ?body ?done ?stop
          case assign =>
            intro L k W K hi2 hk hK
            gi_wp2
            exact hK _ _ (KeepsFrom.refl _ _) (Kp.refl _ _ _) ⟨hi2, rfl⟩
          case body =>
            rintro L k a' W hL - ⟨⟨hWs, S1, g1, ag1, hR⟩, rfl⟩ hk
            obtain ⟨j, hj2⟩ : ∃ j, ls.length - 1 - k = j := ⟨_, rfl⟩
            have hjl : j < ls.length := by omega
            obtain ⟨ca, cc, hhd, hci⟩ := hdl j hjl
            rw [hj2, hhd]
            have hbx := hR.box.cell
            have hp0 := keep HP0.out hR.low
            have hpass := hR.pass
            have HLv := Lib.hid (slive_any (atB ls j) ca cc w1.heap.size ls.length rn g1 S1 W (hci.below (HB1.out.trans (hR.low.mono HB1.out.size))) hR.rows (HLm.out j hjl) hrn2 (fun i hi => HCd.out j i hjl hi))
            have HRg := Lib.hid hR
            have HJ := Lib.hid hj2
            have HWs := Lib.hid hWs
            clear hR hhd hci hj2 hWs hpass
            generalize hlj : (atB ls j).length = lj at *
            clear hlj
            gi_wp2_with fail
            refine ⟨trivial, ?_⟩
            refine (CallsIn.inRound L (callsIn_wide.2 HLv.out)).mono ?_; rintro e wl ⟨⟨q, rfl, hq, hqrow⟩, hbl⟩
            have HRl := Lib.hid (HRg.out.below hbl)
            have hagc := HRl.out.agc.cell
            have hagf := HRl.out.agc.frozen
            have hbx := HRl.out.box.cell
            have hhj := TRow.cell HRl.out.rows.head hjl
            have hhf := TRow.free HRl.out.rows.head j
            have hjz : (j : Int) < (ls.length : Int) := by omega
            have hqw : w1.heap.size + 1 < q := by have := lt_of_block HRg.out.box; omega
            have hqa : q ≠ Ag := by have := lt_of_block HRg.out.agc; omega
            have HFin := Lib.hid (fun (u : World) (hu : Below wl.heap.size wl u) (S2 : Nat → Nat → Bool) (ag2 : Bool) (hS : ∀ b, b ≠ j → S2 b = S1 b) (hN : ∀ r, r < rn → liveL (atB ls j) (fun c r => S1 c.toNat r.toNat) r = S2 j r) (hp : PassI ls rn S S2 (k + 1) ag2) => by
              have hbu := hbl.trans (hu.mono hbl.size)
              have h1 := HRg.out.low.size
              have h2 := HWs.out
              have h3 := hbu.size
              have hk1 := ((keepsFrom_below (B := W2.heap.size) hbu).trans ((KeepsOthers.setCell u ⟨Ag, 0, none⟩ (.bool ag2)).from _)).trans ((KeepsOthers.setCell (u.setCell ⟨Ag, 0, none⟩ (.bool ag2)) ⟨w1.heap.size, j, none⟩ (.slice (some ⟨q, 0, none⟩) rn rn)).from _)
              have hk2 := ((Kp.of_below (n₀ := w.heap.size) (Bs := wx.heap.size) hbu (by omega) (by omega)).trans (Kp.setCell u (by omega) (by omega) 0 (.bool ag2) : Kp w.heap.size wx.heap.size u (u.setCell ⟨Ag, 0, none⟩ (.bool ag2)))).trans (Kp.setCell (u.setCell ⟨Ag, 0, none⟩ (.bool ag2)) (by omega) (by omega) j (.slice (some ⟨q, 0, none⟩) rn rn) : Kp w.heap.size wx.heap.size _ ((u.setCell ⟨Ag, 0, none⟩ (.bool ag2)).setCell ⟨w1.heap.size, j, none⟩ (.slice (some ⟨q, 0, none⟩) rn rn)))
              have hk3 : W2.heap.size ≤ ((u.setCell ⟨Ag, 0, none⟩ (.bool ag2)).setCell ⟨w1.heap.size, j, none⟩ (.slice (some ⟨q, 0, none⟩) rn rn)).heap.size := by simp [World.setCell]; omega
              exact And.intro hk1 (And.intro hk2 (And.intro hk3 (⟨_, _, _, (HRl.out.below hu).put hqw hqa (TRow.below hqrow hu) hS hN hp⟩ : RgS w1 ls rn Ag Ds S (k + 1) _))))
            have HQr := Lib.hid hqrow
            clear hqrow hbl
            cases ag1
            · have hE := equalB_any q (g1 j) rn (fun r => liveL (atB ls j) (fun c r => S1 c.toNat r.toNat) r) (S1 j) wl HQr.out (HRl.out.rows.rows j hjl) hrn2
              have HE := Lib.hid hE
              clear hE
              cases heq : eqB rn (fun r => liveL (atB ls j) (fun c r => S1 c.toNat r.toNat) r) (S1 j)
              · rw [heq] at HE
                have hne := eqB_ne heq
                have HPs := Lib.hid (PassI.step HLd.out HRg.out.pass hjl (.inr hne))
                clear heq hne
                gi_wp2_with fail
                refine ⟨trivial, ?_⟩
                refine (CallsIn.inRound L (callsIn_wide.2 HE.out)).mono ?_; rintro e we ⟨rfl, hbe⟩
                have HF2 := Lib.hid (HFin.out we hbe _ _ (fun b hb => by unfold upS; funext r; rw [if_neg hb]) (fun r _ => by unfold upS; rw [if_pos rfl]; rfl) HPs.out)
                have hagc := keep hagc hbe
                have hagf := ((HRl.out.below hbe).agc).frozen
                have hbx := keep hbx hbe
                have hhj := keep hhj hbe
                have hhf := TRow.free (HRl.out.below hbe).rows.head j
                clear hbe
                gi_wp2_with fail
                exact HF2.out
              · rw [heq] at HE
                have HPs := Lib.hid (PassI.keep HRg.out.pass hk (fun r hr => by rw [HJ.out]; exact eqB_at heq hr))
                have HEq := Lib.hid (fun r hr => eqB_at heq (r := r) hr)
                clear heq
                gi_wp2_with fail
                refine ⟨trivial, ?_⟩
                refine (CallsIn.inRound L (callsIn_wide.2 HE.out)).mono ?_; rintro e we ⟨rfl, hbe⟩
                have HF2 := Lib.hid (HFin.out we hbe _ _ (fun b hb => rfl) (fun r hr => HEq.out r hr) HPs.out)
                have hagc := keep hagc hbe
                have hagf := ((HRl.out.below hbe).agc).frozen
                have hbx := keep hbx hbe
                have hhj := keep hhj hbe
                have hhf := TRow.free (HRl.out.below hbe).rows.head j
                clear hbe
                gi_wp2_with fail
                exact HF2.out
            · have HPs := Lib.hid (PassI.step HLd.out HRg.out.pass hjl (.inl rfl))
              have HF2 := Lib.hid (HFin.out wl (Below.refl _ _) _ _ (fun b hb => by unfold upS; funext r; rw [if_neg hb]) (fun r _ => by unfold upS; rw [if_pos rfl]; rfl) HPs.out)
              clear HPs
              gi_wp2_with fail
              refine ⟨trivial, ?_⟩
              gi_wp2_with fail
              exact HF2.out
          case done =>
            rintro D W hD ⟨hWs, S1, g1, ag1, hR⟩ hK
            have hagc := hR.agc.cell
            have HR1 := Lib.hid hR
            have HNx := Lib.hid (ag_next hR hK (by omega) (fun E hE => by have := hDx E hE; omega))
            have HLess := Lib.hid (mu_less hR.pass)
            clear hR
            gi_wp2_with fail
            refine ⟨(HInv.out _ _).2 ⟨W.heap.size, D :: Ds, S1, g1, ag1, _, _, _, _, _, _, _, _, _, _, _, _, _, _, _, _, _, _, _, _, _, _, _, _, _, _, _, _, _, rfl, HNx.out⟩, ?_⟩
            rw [mu_is HNx.out rfl, HMu.out]
            exact HLess.out
          case stop =>
            rintro D c k W _ _ h _
            exact h.elim
end Go.Proofs.Ytjfpaelmcepidaa.PK
