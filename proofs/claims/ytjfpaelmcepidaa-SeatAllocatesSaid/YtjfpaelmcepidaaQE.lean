/- The walk of the specification's reads; rows of numbers in a row of the call's own. -/
import Derived.Test.YtjfpaelmcepidaaVD
import Derived.Test.YtjfpaelmcepidaaMU
import Derived.Deep.RegionHeld3
import Derived.IntWalk
import Derived.Test.YtjfpaelmcepidaaNW
import Derived.Deep.MidRow
namespace Go.Proofs.Ytjfpaelmcepidaa.PK
open Go.RowKit

theorem BRowF.see {w : World} {q n : Nat} {S : Nat → Bool} (h : BRowF w q n S) (b : Nat) : BRowF (w.setCell ⟨q, b, none⟩ (.bool true)) q n (seeB S b) := by
  have h2 := TRow.set h b (.bool true)
  have e : upd (fun k => Value.bool (S k)) b (.bool true) = fun k => .bool (seeB S b k) := by
    funext k; unfold upd seeB; split <;> rfl
  unfold BRowF
  rwa [e] at h2
/-- How a search returns. -/
def ReadsPost (ls : List (List Cd)) (r : Int) (b : Nat) (S : Nat → Bool) (q n : Nat) (w : World) (e : Ending) (w' : World) : Prop :=
  ∃ v S', e = .returned (.bool v) ∧ BRowF w' q n S' ∧ Save q w w' ∧ (v = true → LiveR ls r b) ∧ (v = false → Dfs ls r b S S')
theorem save_alloc {q : Nat} {a b : World} (h : Save q a b) (o : Obj) : Save q a (b.alloc o) := h.trans (Save.of_below ((Below.refl _ _).alloc (Nat.le_refl _) o))
theorem usesB_mem {x : Cd} {r : Int} {k : Nat} (hk : k < (usesL x).length) (h : (usesL x).getD k 0 = r) : usesB x r = true := by
  unfold usesB
  rw [List.contains_iff_mem, ← h, List.getD_eq_getElem?_getD, List.getElem?_eq_getElem hk]
  exact List.getElem_mem hk
theorem usesB_none {x : Cd} {r : Int} (h : ∀ k, k < (usesL x).length → (usesL x).getD k 0 ≠ r) : usesB x r = false := by
  cases hu : usesB x r
  · rfl
  · unfold usesB at hu
    rw [List.contains_iff_mem] at hu
    obtain ⟨k, hk, e⟩ := List.mem_iff_getElem.1 hu
    exact absurd (by rw [List.getD_eq_getElem?_getD, List.getElem?_eq_getElem hk]; exact e) (h k hk)

/-- How a search stands when it has gone through i instructions. -/
structure RdI (ls : List (List Cd)) (r : Int) (b i q : Nat) (S : Nat → Bool) (w1 wr : World) (S' : Nat → Bool) : Prop where
  dfs : DfsI ls r b i S S'
  row : BRowF wr q ls.length S'
  sav : Save q w1 wr
def RdS (ls : List (List Cd)) (r : Int) (b i q : Nat) (S : Nat → Bool) (w1 wr : World) : Prop := ∃ S', RdI ls r b i q S w1 wr S'
theorem RdI.below {ls : List (List Cd)} {r : Int} {b i q : Nat} {S : Nat → Bool} {w1 wr wd : World} {S' : Nat → Bool} (h : RdI ls r b i q S w1 wr S') (hb : Below wr.heap.size wr wd) : RdI ls r b i q S w1 wd S' := ⟨h.dfs, TRow.below h.row hb, h.sav.trans (Save.of_below hb)⟩
theorem seeB_sub {ls : List (List Cd)} {r : Int} {b i : Nat} {S S' : Nat → Bool} (h : DfsI ls r b i S S') : ∀ k, seeB S b k = true → S' k = true := fun k hk => by
  by_cases e : k = b
  · rw [e]; exact h.here
  · exact h.mono k (seeB_inv hk e)
def noneYet (us : List Int) (r : Int) (k : Nat) : Prop := ∀ j, j < k → us.getD j 0 ≠ r
theorem reads_hit {ls : List (List Cd)} {r : Int} {b i q : Nat} {S : Nat → Bool} {w w1 wr : World} {S' : Nat → Bool} (h : RdI ls r b i q S w1 wr S') (hw : Save q w w1) (hl : LiveR ls r b) : ReadsPost ls r b S q ls.length w (.returned (.bool true)) wr :=
  ⟨true, S', rfl, h.row, hw.trans h.sav, fun _ => hl, fun e => by cases e⟩
theorem reads_none {ls : List (List Cd)} {r : Int} {b i q : Nat} {S : Nat → Bool} {w w1 wr : World} {S' : Nat → Bool} (h : RdI ls r b i q S w1 wr S') (hw : Save q w w1) (hl : Dfs ls r b S S') : ReadsPost ls r b S q ls.length w (.returned (.bool false)) wr :=
  ⟨false, S', rfl, h.row, hw.trans h.sav, fun e => (by cases e), fun _ => hl⟩
set_option maxRecDepth 100000 in
set_option maxHeartbeats 8000000 in
theorem reads_all (regs : Int) (ls : List (List Cd)) (bl : Option Addr) (cap : Nat) (r : Int) (q : Nat) (w0 : World) (hin : BlkIn w0 bl ls) (hm : ∀ k, k < ls.length → (atB ls k).length ≤ 9223372036854775807) (hto : ∀ k i, k < ls.length → i < (atB ls k).length → fT (atC (atB ls k) i).op = true → 0 ≤ (atC (atB ls k) i).to ∧ (atC (atB ls k) i).to < ls.length) (hq : w0.heap.size ≤ q) (m : Nat) :
    ∀ (S : Nat → Bool) (b : Nat) (w : World), Below w0.heap.size w0 w → BRowF w q ls.length S → b < ls.length → S b = false → unseen S ls.length ≤ m →
    Calls Try.prog 76 #[.agg #[.int .i64 regs, .slice bl ls.length cap], .int .i64 b, .int .i64 r, .slice (some ⟨q, 0, none⟩) ls.length ls.length] w (ReadsPost ls r b S q ls.length w) := by
  have HI := Lib.hid hin; have HM := Lib.hid hm; have HT := Lib.hid hto
  clear hin hm hto
  induction m with
  | zero =>
    intro S b w _ _ hb hs hu
    have := unseen_lt (S := S) (S' := fun _ => true) (fun _ _ => rfl) hs rfl hb
    omega
  | succ m ih =>
    intro S b w hbw hrow hb hs hu
    have HIH := Lib.hid ih
    have HU := Lib.hid hu; have HBW := Lib.hid hbw; have HR := Lib.hid hrow; have HS := Lib.hid hs
    have hc0 := TRow.cell hrow hb
    have hf0 := TRow.free hrow b
    have hrow0 := hrow
    clear ih hbw hrow hu hs
    obtain ⟨cb, coff, ca, ccap, hbl, hcl, hci⟩ := HI.out b hb
    have hlen := HM.out b hb
    have HCi := Lib.hid hci
    have HTb := Lib.hid (HT.out b)
    clear hci
    subst hbl
    have hqw := TRow.lt hrow0
    have HNext := Lib.hid (fun (i : Nat) (S S' : Nat → Bool) (h : DfsI ls r b i S S') => DfsI.next h)
    have HAll := Lib.hid (fun (S S' : Nat → Bool) => DfsI.all (ls := ls) (r := r) (b := b) (S := S) (S' := S'))
    have HDefd := Lib.hid (fun (i : Nat) (S S' : Nat → Bool) (h : DfsI ls r b i S S') => DfsI.defined h)
    have HHits := Lib.hid (fun (i : Nat) (S S' : Nat → Bool) (h : DfsI ls r b i S S') => DfsI.hits h)
    have HGoes := Lib.hid (fun (i c : Nat) (S S' : Nat → Bool) (h : DfsI ls r b i S S') => DfsI.goes (c := c) h)
    generalize hl0 : atB ls b = l at *
    have HL0 := Lib.hid hl0; clear hl0 hrow0
    go_enter Try.func76, Try.ntmps76
    go_upto_region 1 with (fail)
    have hal : Below w.heap.size w (w.alloc (.cells #[.int .i64 regs, .slice (some ⟨cb, coff, none⟩) ls.length cap] 24)) := (Below.refl _ _).alloc (Nat.le_refl _) _
    obtain ⟨p, hp⟩ : ∃ p, w.heap.size = p := ⟨_, rfl⟩
    have hp0 : (w.alloc (.cells #[.int .i64 regs, .slice (some ⟨cb, coff, none⟩) ls.length cap] 24)).cell? ⟨p, 0, none⟩ = some (.int .i64 regs) := by subst hp; simp [go_sem]
    have hp1 : (w.alloc (.cells #[.int .i64 regs, .slice (some ⟨cb, coff, none⟩) ls.length cap] 24)).cell? ⟨p, 1, none⟩ = some (.slice (some ⟨cb, coff, none⟩) ls.length cap) := by subst hp; simp [go_sem]
    rw [hp]
    generalize w.alloc (.cells #[.int .i64 regs, .slice (some ⟨cb, coff, none⟩) ls.length cap] 24) = wb at *
    have hqp : q ≠ p := by omega
    have hc1 := keep hc0 hal
    have hf1 := TRow.free (TRow.below HR.out hal) b
    have hnb : (b : Int) < (ls.length : Int) := by omega
    have hp0' := cell_other (x := Value.bool true) (j := b) hp0 (Ne.symm hqp)
    have hp1' := cell_other (x := Value.bool true) (j := b) hp1 (Ne.symm hqp)
    have HR1 := Lib.hid (BRowF.see (TRow.below HR.out hal) b)
    have HS1 := Lib.hid ((Save.of_below (q := q) hal).trans (Save.set q b wb (.bool true)))
    clear hc0 hf0 hal
    go_upto_region 2 with (fail)
    generalize wb.setCell ⟨q, b, none⟩ (.bool true) = w1 at *
    have HW1 := Lib.hid (HBW.out.trans (HS1.out.below hq HBW.out.size))
    have hcl1 := keep hcl HW1.out
    clear hc1 hf1 hp0 hp1
    go_wp2_with fail
    clear hcl hcl1
    go_loopw [10] (fun c wr => ∃ i : Nat, i ≤ l.length ∧ c = .int .i64 i ∧ RdS ls r b i q S w1 wr) (fun c _ => l.length - (intOf c).toNat)
    case atStart => exact ⟨0, Nat.zero_le _, rfl, _, DfsI.start ls r b S, HR1.out, Save.refl _ _⟩
    case round =>
      obtain ⟨i, hi, rfl, S', hS⟩ := hrel
      have HSi := Lib.hid hS
      have HWr := Lib.hid (HW1.out.trans (hS.sav.below hq HW1.out.size))
      clear hS
      by_cases hlt : i < l.length
      · obtain ⟨xb, xo, hxe, hx⟩ := HCi.out i hlt
        have HX := Lib.hid (hx.keep HWr.out)
        have HTi := Lib.hid (HTb.out i)
        have HN := Lib.hid (HNext.out i S)
        have HD := Lib.hid (HDefd.out i S)
        have HH := Lib.hid (HHits.out i S)
        have HG := Lib.hid (fun c => HGoes.out i c S)
        clear hx
        subst hxe
        generalize hxx : atC l i = x at *
        clear hxx
        have HUs := Lib.hid (ruses_any x)
        unfold UsesPost at HUs
        obtain ⟨c0, c1, c2, c3, c4, c5⟩ := HX.out
        have hil : (i : Int) < l.length := by omega
        go_upto_region 6 with (fail)
        go_wp2_with fail
        refine (HUs.out _).mono ?_; rintro e w3 ⟨⟨v, rfl, ho⟩, hb3⟩
        have HU3 := Lib.hid (rowAt_owns ho (q := q) (TRow.lt HSi.out.row))
        have HS3 := Lib.hid (HSi.out.below hb3)
        obtain ⟨ua, uc, rfl⟩ := owns_shape ho
        have HX3 := Lib.hid (HX.out.keep hb3)
        have HP3 := Lib.hid (And.intro (HS3.out.sav.cell (Ne.symm hqp) hp0') (HS3.out.sav.cell (Ne.symm hqp) hp1'))
        have HW3 := Lib.hid (HWr.out.trans (hb3.mono HWr.out.size))
        clear c0 c1 c2 c3 c4 c5 ho hb3 HSi HX HWr HUs
        obtain ⟨a', cap', e', hi', hne'⟩ := HU3.out
        cases e'
        have HI3 := Lib.hid hi'
        have hul := usesL_len x
        have HHit := Lib.hid (fun k (h1 : k < (usesL x).length) (h2 : (usesL x).getD k 0 = r) => reads_hit HS3.out HS1.out (HH.out S' HS3.out.dfs hlt (usesB_mem h1 h2)))
        have HNo := Lib.hid (usesB_none (x := x) (r := r))
        clear hi' hne' HU3 HH
        generalize usesL x = us at *
        go_wp2_with fail
        go_loop [12] (fun c => ∃ k : Nat, k ≤ us.length ∧ c = .int .i64 k ∧ noneYet us r k) (fun c => us.length - (intOf c).toNat)
        case atStart => exact ⟨0, Nat.zero_le _, rfl, fun j hj => absurd hj (Nat.not_lt_zero _)⟩
        case round =>
          obtain ⟨k, hk, rfl, hny⟩ := hrel
          have HNy := Lib.hid hny; clear hny
          by_cases hlk : k < us.length
          · obtain ⟨b2, o2, rfl, hcu⟩ := HI3.out k hlk
            have hkl : (k : Int) < us.length := by omega
            by_cases her : us.getD k 0 = r
            · have HF := Lib.hid (HHit.out k hlk her)
              rw [her] at hcu
              clear her HHit HI3 HNo
              go_wp2_with fail
              go_ret
              exact HF.out
            · have HNx : Hid (noneYet us r (k + 1)) := Lib.hid (fun j hj => by
                by_cases e : j = k
                · rw [e]; exact her
                · exact HNy.out j (by omega))
              generalize us.getD k 0 = u at *
              go_wp2_with fail
              go_round
              case rel => exact ⟨k + 1, by omega, by go_num, HNx.out⟩
              case measure => simp [intOf]; omega
          · have hke : k = us.length := by omega
            have hux := HNo.out (fun j hj => HNy.out j (by omega))
            have HUx := Lib.hid hux
            obtain ⟨c0, c1, c2, c3, c4, c5⟩ := HX3.out
            clear hux HHit HI3 HNo HNy hke
            go_wp2_with fail
            refine (rhas_any x.op _).mono ?_; rintro e w4 ⟨rfl, rfl⟩
            by_cases hdf : defB x r = true
            · have hdd : fD x.op = true ∧ x.d = r := by unfold defB at hdf; simpa using hdf
              have HF := Lib.hid (reads_none HS3.out HS1.out (HD.out S' HS3.out.dfs hlt HUx.out hdf))
              obtain ⟨hd1, hd2⟩ := hdd
              rw [hd2] at c1
              clear hdf hd2
              go_wp2_with fail
              go_ret
              exact HF.out
            have HDf := Lib.hid (Bool.eq_false_iff.2 hdf)
            have hdd : fD x.op = false ∨ (fD x.op = true ∧ ¬ x.d = r) := by
              unfold defB at hdf
              cases h : fD x.op
              · exact .inl rfl
              · exact .inr ⟨rfl, fun e => hdf (by rw [h, e]; simp)⟩
            clear hdf HD
            rcases hdd with hd1 | ⟨hd1, hd2⟩
            all_goals
              go_wp2_with fail
              generalize htb : fT x.op = tb
              have HTB := Lib.hid htb
              clear htb
              have hrow := HS3.out.row
              obtain ⟨hp0, hp1⟩ := HP3.out
              cases tb
              · have HNx := Lib.hid (HN.out S' HS3.out.dfs hlt HUx.out HDf.out (fun h => absurd (HTB.out.symm.trans h) (by decide)))
                clear hp0 hp1 hrow c5
                refine wp_region_still_veil (by kernel_rfl) (by kernel_rfl) ?_
                iterate 2 (refine still_step_h (fun K hK => ?_); go_simp; refine hK.out _ ?_; clear hK K)
                iterate 9 (refine still_skip_h (by rfl) ?_; simp only [Act.put, List.setIfInBounds_toArray, List.set_cons_zero, List.set_cons_succ])
                iterate 2 (refine still_step_h (fun K hK => ?_); go_simp; refine hK.out _ ?_; clear hK K)
                iterate 9 (refine still_skip_h (by rfl) ?_; simp only [Act.put, List.setIfInBounds_toArray, List.set_cons_zero, List.set_cons_succ])
                iterate 1 (refine still_step_h (fun K hK => ?_); go_simp; refine hK.out _ ?_; clear hK K)
                refine still_nil_h ?_
                go_wp2_with fail
                go_roundw
                case rel => exact ⟨i + 1, by omega, by go_num, S', HNx.out, TRow.below HS3.out.row (below_drew1 (Below.refl _ _)), HS3.out.sav.trans (Save.of_below (below_drew1 (Below.refl _ _)))⟩
                case measure => simp [intOf]; omega
              · obtain ⟨ht0, ht1⟩ := HTi.out hb hlt HTB.out
                obtain ⟨tn, htn⟩ : ∃ tn : Nat, x.to = tn := ⟨x.to.toNat, by omega⟩
                have htl : tn < ls.length := by omega
                have hti : (tn : Int) < (ls.length : Int) := by omega
                rw [htn] at c5
                have hcs := TRow.cell hrow htl
                have HTn := Lib.hid htn
                obtain ⟨sb, hsb⟩ : ∃ sb, S' tn = sb := ⟨_, rfl⟩
                rw [hsb] at hcs
                have HSb := Lib.hid hsb
                clear hsb htn ht0 ht1 hrow
                cases sb
                · have HCall := Lib.hid (fun w' (h1 : Below w0.heap.size w0 w') (h2 : BRowF w' q ls.length S') => HIH.out S' tn w' h1 h2 htl HSb.out (by have h3 := unseen_lt (S := S) (S' := seeB S b) seeB_mono HS.out (seeB_at S b) hb; have h4 := unseen_mono (S := seeB S b) (S' := S') (fun k hk => seeB_sub HS3.out.dfs k hk) ls.length; have h5 := HU.out; omega))
                  have HRow3 := Lib.hid HS3.out.row
                  refine wp_region_tail_veil 21 (by kernel_rfl) (by kernel_rfl) ?_
                  simp only [List.take_succ_cons, List.take_zero, List.drop_succ_cons, List.drop_zero]
                  iterate 21 (refine still_step_h (fun K hK => ?_); go_simp; refine hK.out _ ?_; clear hK K)
                  refine still_nil_h ?_
                  go_wp2_with fail
                  refine (HCall.out _ (HW3.out.trans (below_drew1 (Below.refl _ _))) (TRow.below HRow3.out (below_drew1 (Below.refl _ _)))).mono ?_
                  rintro e w5 ⟨vv, S2, rfl, hrow5, hsv5, ht5, hf5⟩
                  have HS5 := Lib.hid (HS3.out.sav.trans ((Save.of_below (q := q) (below_drew1 (Below.refl _ _))).trans hsv5))
                  have HRow5 := Lib.hid hrow5; have HT5 := Lib.hid ht5; have HF5 := Lib.hid hf5
                  clear hrow5 hsv5 ht5 hf5 hp0 hp1 hcs c5
                  cases vv
                  · have HIn := Lib.hid (DfsI.into HS3.out.dfs (HF5.out rfl))
                    have HNx := Lib.hid (HN.out S2 HIn.out hlt HUx.out HDf.out (fun _ => by rw [HTn.out]; exact (HF5.out rfl).here))
                    go_wp2_with fail
                    go_roundw
                    case rel => exact ⟨i + 1, by omega, by go_num, S2, HNx.out, HRow5.out, HS5.out⟩
                    case measure => simp [intOf]; omega
                  · have HL := Lib.hid (HG.out tn S' HS3.out.dfs hlt HTB.out HTn.out (HT5.out rfl))
                    go_wp2_with fail
                    go_ret
                    exact ⟨true, S2, rfl, HRow5.out, HS1.out.trans HS5.out, fun _ => HL.out, fun e => by cases e⟩
                · have HNx := Lib.hid (HN.out S' HS3.out.dfs hlt HUx.out HDf.out (fun _ => by rw [HTn.out]; exact HSb.out))
                  clear hp0 hp1
                  refine wp_region_still_veil (by kernel_rfl) (by kernel_rfl) ?_
                  iterate 13 (refine still_step_h (fun K hK => ?_); go_simp; refine hK.out _ ?_; clear hK K)
                  iterate 9 (refine still_skip_h (by rfl) ?_; simp only [Act.put, List.setIfInBounds_toArray, List.set_cons_zero, List.set_cons_succ])
                  iterate 1 (refine still_step_h (fun K hK => ?_); go_simp; refine hK.out _ ?_; clear hK K)
                  refine still_nil_h ?_
                  go_wp2_with fail
                  go_roundw
                  case rel => exact ⟨i + 1, by omega, by go_num, S', HNx.out, TRow.below HS3.out.row (below_drew1 (Below.refl _ _)), HS3.out.sav.trans (Save.of_below (below_drew1 (Below.refl _ _)))⟩
                  case measure => simp [intOf]; omega
      · have hie : i = l.length := by omega
        subst hie
        have HF := Lib.hid (reads_none HSi.out HS1.out (HAll.out S S' HSi.out.dfs))
        go_wp2_with fail
        go_ret
        exact HF.out
end Go.Proofs.Ytjfpaelmcepidaa.PK
namespace Go.Proofs.Ytjfpaelmcepidaa.PK
open Go.RowKit

theorem cellOf {W W' : World} {b off : Nat} {v : Value} (h : W.cell? ⟨b, off, none⟩ = some v) (hk : W'.heap[b]? = W.heap[b]?) : W'.cell? ⟨b, off, none⟩ = some v := by
  rw [World.cell?_of_block (w := W) hk]; exact h
theorem cell_kept {w w' : World} {b off : Nat} {v : Value} {row : Option Nat} (h : w.cell? ⟨b, off, none⟩ = some v) (hg : w.grownBy w' row) (hne : some b ≠ row) : w'.cell? ⟨b, off, none⟩ = some v := by
  have e := hg.block b (block_lt_of_cell h) hne
  unfold World.cell? at *
  rw [e]; exact h
/-- The values of a row are these rows of numbers, and lie in other blocks. -/
def RowsAre (w : World) (base : Nat) (row : Option Nat) (L : List (List Int)) (vals : List Value) : Prop :=
  ∀ k, k < L.length → ∃ a cap, vals[k]? = some (.slice a (L.getD k []).length cap) ∧ (L.getD k []).length ≤ cap ∧ (a = none → cap = 0) ∧ IntsIn w a (L.getD k []) ∧ ∀ b off, a = some ⟨b, off, none⟩ → base ≤ b ∧ b < w.heap.size ∧ some b ≠ row
/-- Rows of numbers in a row of the call's own. -/
def RowsOwn (w : World) (base : Nat) (v : Value) (L : List (List Int)) : Prop := ∃ vals, w.ownsRow base 43 1 v L.length vals ∧ RowsAre w base v.ownBlock L vals
theorem RowsOwn.nil (w : World) (base : Nat) : RowsOwn w base (.slice none 0 0) [] := ⟨[], owns_nil _ _ _ _, fun _ hk => absurd hk (Nat.not_lt_zero _)⟩
theorem RowsOwn.shape {w : World} {base : Nat} {v : Value} {L : List (List Int)} (h : RowsOwn w base v L) : ∃ a cap, v = .slice a L.length cap := by
  obtain ⟨vals, ho, _⟩ := h
  exact owns_shape ho
theorem RowsAre.below {w w' : World} {base : Nat} {row : Option Nat} {L : List (List Int)} {vals : List Value} (h : RowsAre w base row L vals) (hb : Below w.heap.size w w') : RowsAre w' base row L vals := fun k hk => by
  obtain ⟨a, cap, h1, h2, h0, h3, h4⟩ := h k hk
  exact ⟨a, cap, h1, h2, h0, h3.below hb, fun b off e => ⟨(h4 b off e).1, Nat.lt_of_lt_of_le (h4 b off e).2.1 hb.size, (h4 b off e).2.2⟩⟩
theorem RowsOwn.below {w w' : World} {base : Nat} {v : Value} {L : List (List Int)} (h : RowsOwn w base v L) (hb : Below w.heap.size w w') : RowsOwn w' base v L := by
  obtain ⟨vals, ho, hr⟩ := h
  exact ⟨vals, owns_below ho hb, hr.below hb⟩
theorem RowsOwn.base {w : World} {base base' : Nat} {v : Value} {L : List (List Int)} (h : RowsOwn w base v L) (hb : base' ≤ base) : RowsOwn w base' v L := by
  obtain ⟨vals, ho, hr⟩ := h
  refine ⟨vals, owns_base ho hb, fun k hk => ?_⟩
  obtain ⟨a, cap, h1, h2, h0, h3, h4⟩ := hr k hk
  exact ⟨a, cap, h1, h2, h0, h3, fun b off e => ⟨Nat.le_trans hb (h4 b off e).1, (h4 b off e).2⟩⟩
/-- The same rows, with the blocks between which they lie. -/
def RowsBet (w : World) (lo hi : Nat) (v : Value) (L : List (List Int)) : Prop :=
  ∀ k, k < L.length → ∃ g c a cap, v = .slice (some ⟨g, 0, none⟩) L.length c ∧ lo ≤ g ∧ g < hi ∧ w.cell? ⟨g, k, none⟩ = some (.slice a (L.getD k []).length cap) ∧ (L.getD k []).length ≤ cap ∧ (a = none → cap = 0) ∧ IntsIn w a (L.getD k []) ∧ ∀ b off, a = some ⟨b, off, none⟩ → lo ≤ b ∧ b < hi
theorem RowsOwn.bet {w : World} {base : Nat} {v : Value} {L : List (List Int)} (h : RowsOwn w base v L) : RowsBet w base w.heap.size v L := fun k hk => by
  obtain ⟨vals, ho, hr⟩ := h
  obtain ⟨a, cap, h1, h2, h0, h3, h4⟩ := hr k hk
  obtain ⟨g, c, rfl, _, _, hg, hg2, hc, _⟩ := owns_cells ho (by omega)
  exact ⟨g, c, a, cap, rfl, hg, hg2, hc _ _ h1, h2, h0, h3, fun b off e => ⟨(h4 b off e).1, (h4 b off e).2.1⟩⟩
theorem RowsBet.keep {w w' : World} {lo hi : Nat} {v : Value} {L : List (List Int)} (h : RowsBet w lo hi v L) (hk : ∀ b, lo ≤ b → b < hi → w'.heap[b]? = w.heap[b]?) : RowsBet w' lo hi v L := fun k hkl => by
  obtain ⟨g, c, a, cap, e, h1, h2, h3, h4, h0, h5, h6⟩ := h k hkl
  refine ⟨g, c, a, cap, e, h1, h2, cellOf h3 (hk g h1 h2), h4, h0, fun j hj => ?_, h6⟩
  obtain ⟨b, off, rfl, hc⟩ := h5 j hj
  obtain ⟨h7, h8⟩ := h6 b off rfl
  exact ⟨b, off, rfl, cellOf hc (hk b h7 h8)⟩
/-- One row more. -/
theorem RowsOwn.snoc {w w' : World} {base : Nat} {v v' : Value} {L : List (List Int)} {a : Option Addr} {cap : Nat} {xs : List Int} {vals : List Value} (hl : vals.length = L.length) (h : RowsAre w base v.ownBlock L vals) (ho : w'.ownsRow base 43 1 v' (L.length + 1) (vals ++ [.slice a xs.length cap])) (hg : w.grownBy w' v.ownBlock)
    (hat : v'.ownBlock = v.ownBlock ∨ v'.ownBlock = some w.heap.size) (hx : IntsIn w a xs) (hcap : xs.length ≤ cap) (h0 : a = none → cap = 0) (hxb : ∀ b off, a = some ⟨b, off, none⟩ → base ≤ b ∧ b < w.heap.size ∧ some b ≠ v.ownBlock) : RowsOwn w' base v' (L ++ [xs]) := by
  have hkeep : ∀ (b : Option Addr) (ys : List Int), IntsIn w b ys → (∀ c off, b = some ⟨c, off, none⟩ → base ≤ c ∧ c < w.heap.size ∧ some c ≠ v.ownBlock) → IntsIn w' b ys := fun b ys hi hb k hk => by
    obtain ⟨c, off, rfl, hc⟩ := hi k hk
    exact ⟨c, off, rfl, cell_kept hc hg (hb c off rfl).2.2⟩
  have hnew : ∀ c, base ≤ c ∧ c < w.heap.size ∧ some c ≠ v.ownBlock → base ≤ c ∧ c < w'.heap.size ∧ some c ≠ v'.ownBlock := fun c ⟨h3, h1, h2⟩ => ⟨h3, Nat.lt_of_lt_of_le h1 hg.size, fun e => by
    rcases hat with h3 | h3
    · rw [h3] at e; exact h2 e
    · rw [h3] at e; cases e; omega⟩
  refine ⟨vals ++ [.slice a xs.length cap], by rw [List.length_append]; exact ho, fun k hk => ?_⟩
  rw [List.length_append, List.length_singleton] at hk
  by_cases e : k < L.length
  · obtain ⟨b, c, h1, h2, h00, h3, h4⟩ := h k e
    have el : (L ++ [xs]).getD k [] = L.getD k [] := by rw [List.getD_eq_getElem?_getD, List.getD_eq_getElem?_getD, List.getElem?_append_left e]
    rw [el]
    refine ⟨b, c, ?_, h2, h00, hkeep b _ h3 h4, fun d off ed => hnew d (h4 d off ed)⟩
    rw [List.getElem?_append_left (by rw [hl]; exact e)]; exact h1
  · obtain rfl : k = L.length := by omega
    have el : (L ++ [xs]).getD L.length [] = xs := by simp [List.getD_eq_getElem?_getD]
    rw [el]
    refine ⟨a, cap, ?_, hcap, h0, hkeep a xs hx hxb, fun c off ec => hnew c (hxb c off ec)⟩
    rw [← hl, List.getElem?_append_right (Nat.le_refl _)]
    simp
theorem RowsOwn.rows {w : World} {base : Nat} {v : Value} {L : List (List Int)} (h : RowsOwn w base v L) : ∃ a cap, v = .slice a L.length cap ∧ RowsIn w a L := by
  obtain ⟨a, cap, rfl⟩ := h.shape
  refine ⟨a, cap, rfl, fun k hk => ?_⟩
  obtain ⟨g, c, a', cap', e, _, _, hc, _, _, h3, _⟩ := h.bet k hk
  cases e
  exact ⟨g, 0, a', cap', rfl, by rw [Nat.zero_add]; exact hc, h3⟩
/-- One row more, that lies in a block of its own behind the world wr. -/
theorem RowsOwn.snoc_own {wr ws w9 : World} {v9 : Value} {base : Nat} {oa : Option Addr} {oc vc : Nat} {va : Option Addr} {L : List (List Int)} {f : List Int} {vals : List Value} {o : Obj}
    (hov : ws.ownsRow base 43 1 (.slice oa L.length oc) L.length vals) (hra : RowsAre ws base (Value.slice oa L.length oc).ownBlock L vals) (hgo : ∀ g, (Value.slice oa L.length oc).ownBlock = some g → g < wr.heap.size) (hbw : base ≤ wr.heap.size)
    (hown : ws.ownsRow wr.heap.size 3 1 (.slice va f.length vc) f.length (encI f)) (h9 : w9.ownsRow base 43 1 v9 (L.length + 1) (vals ++ [.slice va f.length vc])) (hg : (ws.alloc o).grownBy w9 (Value.slice oa L.length oc).ownBlock)
    (hat : v9.ownBlock = (Value.slice oa L.length oc).ownBlock ∨ v9.ownBlock = some (ws.alloc o).heap.size) : RowsOwn w9 base v9 (L ++ [f]) := by
  obtain ⟨va', vc', e', hvc, hvi⟩ := ints_of_owns hown
  cases e'
  have hb6 : Below ws.heap.size ws (ws.alloc o) := (Below.refl ws.heap.size ws).alloc (Nat.le_refl _) o
  refine RowsOwn.snoc (xs := f) (by have := hov.1; omega) (hra.below hb6) h9 hg hat (hvi.below hb6) hvc (fun e => by
    subst e
    obtain ⟨_, ⟨e2, _⟩ | ⟨g, c, cur, e2, _⟩⟩ := hown
    · exact (Value.slice.inj e2).2.2
    · cases e2) (fun b' o' e => by
    subst e
    have h1 : wr.heap.size ≤ b' ∧ b' < ws.heap.size := owns_block hown rfl
    refine ⟨by omega, by simp; omega, fun e2 => ?_⟩
    have := hgo b' e2.symm
    omega)
/-- One row more, in the walk's spelling. -/
def rowsFn (n : Nat) (R : Nat → List Int) : List (List Int) := (List.range n).map R
theorem rowsFn_snoc (n : Nat) (R : Nat → List Int) : rowsFn (n + 1) R = rowsFn n R ++ [R n] := by
  unfold rowsFn; rw [List.range_succ, List.map_append]; rfl
theorem rowsFn_len (n : Nat) (R : Nat → List Int) : (rowsFn n R).length = n := by simp [rowsFn]
theorem rowsFn_get {n k : Nat} (R : Nat → List Int) (h : k < n) : (rowsFn n R).getD k [] = R k := by
  simp [rowsFn, List.getD_eq_getElem?_getD, h]
/-- The numbers below n that fulfil a condition. -/
def picks (f : Nat → Bool) (n : Nat) : List Int := ((List.range n).filter f).map fun r : Nat => (r : Int)
theorem picks_succ (f : Nat → Bool) (n : Nat) : picks f (n + 1) = picks f n ++ if f n then [(n : Int)] else [] := by
  unfold picks
  rw [List.range_succ, List.filter_append, List.map_append]
  cases h : f n <;> simp [h]
theorem picks_len (f : Nat → Bool) (n : Nat) : (picks f n).length ≤ n := by
  unfold picks
  rw [List.length_map]
  exact Nat.le_trans (List.length_filter_le _ _) (by simp)
theorem picks_congr {f g : Nat → Bool} {n : Nat} (h : ∀ r, r < n → f r = g r) : picks f n = picks g n := by
  unfold picks
  congr 1
  apply List.filter_congr
  intro r hr
  exact h r (List.mem_range.1 hr)
/-- These are the registers that are read before they are written. -/
def LiveOf (ls : List (List Cd)) (regs : Nat) (L : List (List Int)) : Prop :=
  ∃ f : Nat → Nat → Bool, (∀ b, b < ls.length → ∀ r : Nat, r < regs → (f b r = true ↔ LiveR ls r b)) ∧ L = rowsFn ls.length fun b => picks (f b) regs
theorem LiveOf.unique {ls : List (List Cd)} {regs : Nat} {L L' : List (List Int)} (h : LiveOf ls regs L) (h' : LiveOf ls regs L') : L = L' := by
  obtain ⟨f, h1, rfl⟩ := h
  obtain ⟨g, h2, rfl⟩ := h'
  unfold rowsFn
  apply List.map_congr_left
  intro b hb
  have hb := List.mem_range.1 hb
  exact picks_congr fun r hr => Bool.eq_iff_iff.2 ((h1 b hb r hr).trans (h2 b hb r hr).symm)
theorem LiveOf.len {ls : List (List Cd)} {regs : Nat} {L : List (List Int)} (h : LiveOf ls regs L) : L.length = ls.length := by
  obtain ⟨f, _, rfl⟩ := h
  exact rowsFn_len _ _
theorem LiveOf.row {ls : List (List Cd)} {regs : Nat} {L : List (List Int)} (h : LiveOf ls regs L) (k : Nat) : (L.getD k []).length ≤ regs := by
  obtain ⟨f, _, rfl⟩ := h
  by_cases hk : k < ls.length
  · rw [rowsFn_get _ hk]; exact picks_len _ _
  · rw [List.getD_eq_getElem?_getD, List.getElem?_eq_none (by rw [rowsFn_len]; omega)]; simp
/-- How the registers that are read before they are written come back. -/
def LvPost (regs : Int) (ls : List (List Cd)) (w : World) (e : Ending) (w' : World) : Prop :=
  (if progErrW regs ls = 0 then ∃ v L, e = .returned (.tuple #[v, .int .i64 0]) ∧ LiveOf ls regs.toNat L ∧ RowsOwn w' w.heap.size v L else e = .returned (.tuple #[.slice none 0 0, .int .i64 (progErrW regs ls)])) ∧ Below w.heap.size w w'
end Go.Proofs.Ytjfpaelmcepidaa.PK
