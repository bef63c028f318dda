/- The walk of Merge of the program (NOT DONE: the round of the loop is left). -/
import Derived.Test.YtmhneonebjcieaaMS
import Derived.Test.YtmhneonebjcieaaSP
import Derived.Test.YtmhneonebjcieaaWB
import Derived.Outline
import Derived.Deep.QuietTactic
namespace Go.Proofs.Ytmhneonebjcieaa
open Go.RowKit Go.Maps

/-- What Merge tells. -/
def MrgPost (l : List Pl) (B : Nat) (v : Value) (w' : World) : Prop :=
  if valE l = 0 then ∃ b, B ≤ b ∧ w'.ownsRow b 38 5 v (sortP (mRun l l.length).out).length (encPl (sortP (mRun l l.length).out)) else v = .slice none 0 0
abbrev OwnT (w : World) (b n : Nat) (D : DataW Unit) : Prop := w.ownsMap Try.prog 73 (plainElem Try.prog 3) b n D
theorem MD.empty : MD (.map []) (fun _ => none) := ⟨tidy_empty, fun _ _ => rfl, fun _ _ _ h => (by cases h)⟩

theorem zeroInt (w : World) : (zeroValue 3).run Try.prog w = .ok (.int .i64 0) w := by kernel_rfl
/-- The box of a thing. -/
structure ThAt (w : World) (q : Nat) (p : Pl) : Prop where
  c0 : w.cell? ⟨q, 0, none⟩ = some (.int .i64 p.va)
  c1 : w.cell? ⟨q, 1, none⟩ = some (.int .i64 p.ki)
  c2 : w.cell? ⟨q, 2, none⟩ = some (.int .i64 p.nn)
theorem PlAt.map {w w' : World} {q mb : Nat} {p : Pl} (h : PlAt w q 0 p) (hg : w.grownBy w' (some mb)) (hq : q ≠ mb) : PlAt w' q 0 p := by
  obtain ⟨c0, c1, c2, c3, c4⟩ := h
  have e : ∀ j, w'.cell? ⟨q, j, none⟩ = w.cell? ⟨q, j, none⟩ := fun j => World.cell?_of_block (w := w) (hg.block q (block_lt_of_cell c0) (by simp; omega))
  exact ⟨by rw [e]; exact c0, by rw [e]; exact c1, by rw [e]; exact c2, by rw [e]; exact c3, by rw [e]; exact c4⟩
theorem owns_map {w w' : World} {mb : Nat} {e : TypeId} {s n : Nat} {v : Value} {xs : List Value} (h : w.ownsRow (mb + 1) e s v n xs) (hg : w.grownBy w' (some mb)) : w'.ownsRow (mb + 1) e s v n xs :=
  owns_of_block h fun g h1 h2 _ => hg.block g h2 (by simp; omega)
theorem mrel_add {w1 w2 w3 w9 : World} {mb n m c : Nat} {D : DataW Unit} {a : Option Addr} {xs : List Value} {o : Obj} (ho : w2.ownsRow (mb + 1) 38 5 (.slice a m c) m xs) (hb : Below mb w1 w2) (hz : mb + 1 ≤ w2.heap.size)
    (hm3 : OwnT w3 mb n D) (hg3 : w2.grownBy w3 (some mb)) (hg9 : (w3.alloc o).grownBy w9 (Value.slice a m c).ownBlock) : OwnT w9 mb n D ∧ Below mb w1 w9 ∧ mb + 1 ≤ w9.heap.size := by
  have hgb : ∀ g, (Value.slice a m c).ownBlock = some g → mb + 1 ≤ g := fun g hg => (owns_block ho hg).1
  have h3 := hg3.size
  have h9 := hg9.size
  simp only [World.size_alloc] at h9
  refine ⟨(hm3.alloc o).kept hg9 (fun e => by have := hgb mb e.symm; omega), ?_, by omega⟩
  exact ((hb.grown hg3 (by omega) (fun g hg => by simp only [Option.some.injEq] at hg; omega)).alloc (by omega) o).grown hg9 (by simp; omega) (fun g hg => by have := hgb g hg; omega)
set_option maxRecDepth 100000 in
set_option maxHeartbeats 4000000 in
theorem merge_any (l : List Pl) (a : Option Addr) (cap : Nat) (w : World) (hin : PlsIn w a l) (hlc : l.length ≤ cap) (hl : l.length ≤ 1000) :
    Calls Try.prog 24 #[.slice a l.length cap] w fun e w' => (∃ v, e = .returned (.tuple #[v, .int .i64 (valE l)]) ∧ MrgPost l w.heap.size v w') ∧ Below w.heap.size w w' := by
  have HV := Lib.hid (valid_any l a cap w hin hlc hl)
  have HI := Lib.hid hin; clear hin
  by_cases hE : valE l = 0
  rotate_left
  · have HP : Hid (∀ w', MrgPost l w.heap.size (.slice none 0 0) w') := Lib.hid fun w' => by unfold MrgPost; rw [if_neg hE]
    have hne : (valE l != 0) = true := bne_iff_ne.2 hE
    generalize valE l = E at *
    go_enter Try.func24, Try.ntmps24
    go_wp2_with fail
    refine HV.out.mono ?_; rintro e w1 ⟨rfl, hb1⟩
    go_wp2_with fail
    go_ret2
    exact ⟨⟨_, rfl, HP.out _⟩, hb1⟩
  have ht := valE_zero.1 hE
  have hl64 := ht.len
  have HP : Hid (∀ v w' b, w.heap.size ≤ b → w'.ownsRow b 38 5 v (sortP (mRun l l.length).out).length (encPl (sortP (mRun l l.length).out)) → MrgPost l w.heap.size v w') := Lib.hid fun v w' b h1 h2 => by
    unfold MrgPost; rw [if_pos hE]; exact ⟨b, h1, h2⟩
  have HT := Lib.hid ht
  rw [hE] at HV ⊢
  clear hE ht
  have HMk := Lib.hid (@run_makeMap Try.prog)
  obtain ⟨i0, hi, ip0, ip1, ip2⟩ := info_parts Try.infoPlace
  have hmm := HMk.out
  go_enter Try.func24, Try.ntmps24
  go_wp2_with fail
  refine HV.out.mono ?_; rintro e w1 ⟨rfl, hb1⟩
  have HB1 := Lib.hid hb1
  have hs1 := hb1.size
  clear hb1
  go_wp2_with fail
  generalize hMB : w1.heap.size = mb at *
  have HMB := Lib.hid hMB; clear hMB
  go_loopw [5, 20] (fun u i wr => ∃ k : Nat, k ≤ l.length ∧ i = .int .i64 k ∧ wr.ownsRow (mb + 1) 38 5 u (mRun l k).out.length (encPl (mRun l k).out) ∧ (∃ n D, n ≤ k ∧ OwnT wr mb n D ∧ MD D (mRun l k).ix) ∧ Below mb w1 wr ∧ mb + 1 ≤ wr.heap.size) (fun _ i _ => l.length - (intOf i).toNat)
  case atStart =>
    refine ⟨0, Nat.zero_le _, rfl, ⟨rfl, .inl ⟨rfl, rfl⟩⟩, ⟨0, .map [], Nat.le_refl _, ?_, MD.empty⟩, ?_, ?_⟩
    · have := World.ownsMap_made w1 Try.prog 73 (plainElem Try.prog 3 : Value → Option (DataW Unit × List MemPlace))
      rw [HMB.out] at this
      exact this
    · rw [← HMB.out]; exact (Below.refl _ _).alloc (Nat.le_refl _) _
    · rw [← HMB.out]; simp
  case round =>
    obtain ⟨k, hk, rfl, ho, ⟨n, D, hnk, hm, hmd⟩, hb, hz⟩ := hrel
    by_cases hlt : k < l.length
    · have hki : (k : Int) < l.length := by omega
      obtain ⟨b, off, rfl, hc⟩ := HI.out.below (HB1.out.trans (hb.mono (by omega))) k hlt
      have hgood := HT.out.good k hlt
      have hnx := mRun_next hlt
      have hok := mOk_run l k hk
      generalize mRun l k = s at *
      generalize at' l k = x at *
      have HNx := Lib.hid hnx
      have hkey := keyOf_thing hgood
      have hhas := hmd.has x hgood
      obtain ⟨c0, c1, c2, c3, c4⟩ := hc
      have HO := Lib.hid ho; have HM := Lib.hid hm; have HMd := Lib.hid hmd; have HB := Lib.hid hb; have HGood := Lib.hid hgood; have HOk := Lib.hid hok; have HKey := Lib.hid hkey; have HHas := Lib.hid hhas
      clear hnx ho hm hmd hb hgood hok hkey hhas
      have HX : Hid (∀ nq, PlAt (((wr.alloc (.cells #[.int .i64 x.fr, .int .i64 x.to, .int .i64 x.va, .int .i64 x.ki, .int .i64 x.nn] 38)).alloc (.cells #[.int .i64 x.va, .int .i64 x.ki, .int .i64 x.nn] 73)).drewN nq) wr.heap.size 0 x) := Lib.hid fun nq => ⟨by simp [go_sem], by simp [go_sem], by simp [go_sem], by simp [go_sem], by simp [go_sem]⟩
      have HTg : Hid (∀ nq, ThAt (((wr.alloc (.cells #[.int .i64 x.fr, .int .i64 x.to, .int .i64 x.va, .int .i64 x.ki, .int .i64 x.nn] 38)).alloc (.cells #[.int .i64 x.va, .int .i64 x.ki, .int .i64 x.nn] 73)).drewN nq) (wr.heap.size + 1) x) := Lib.hid fun nq => ⟨by simp [go_sem], by simp [go_sem], by simp [go_sem]⟩
      have HO1 : Hid (∀ nq, (((wr.alloc (.cells #[.int .i64 x.fr, .int .i64 x.to, .int .i64 x.va, .int .i64 x.ki, .int .i64 x.nn] 38)).alloc (.cells #[.int .i64 x.va, .int .i64 x.ki, .int .i64 x.nn] 73)).drewN nq).ownsRow (mb + 1) 38 5 u5 s.out.length (encPl s.out)) := Lib.hid fun nq => (HO.out.alloc _).alloc _
      have HM1 : Hid (∀ nq, OwnT (((wr.alloc (.cells #[.int .i64 x.fr, .int .i64 x.to, .int .i64 x.va, .int .i64 x.ki, .int .i64 x.nn] 38)).alloc (.cells #[.int .i64 x.va, .int .i64 x.ki, .int .i64 x.nn] 73)).drewN nq) mb n D) := Lib.hid fun nq => (HM.out.alloc _).alloc _
      have HB2 : Hid (∀ nq, Below mb w1 (((wr.alloc (.cells #[.int .i64 x.fr, .int .i64 x.to, .int .i64 x.va, .int .i64 x.ki, .int .i64 x.nn] 38)).alloc (.cells #[.int .i64 x.va, .int .i64 x.ki, .int .i64 x.nn] 73)).drewN nq)) := Lib.hid fun nq => below_drewN ((HB.out.alloc (by omega) _).alloc (by simp; omega) _) nq
      have HZ2 : Hid (∀ nq, wr.heap.size + 2 ≤ (((wr.alloc (.cells #[.int .i64 x.fr, .int .i64 x.to, .int .i64 x.va, .int .i64 x.ki, .int .i64 x.nn] 38)).alloc (.cells #[.int .i64 x.va, .int .i64 x.ki, .int .i64 x.nn] 73)).drewN nq).heap.size) := Lib.hid fun nq => by simp
      have HQm : Hid (wr.heap.size ≠ mb) := Lib.hid (by omega)
      have HN63 : Hid (n < maxLen) := Lib.hid (by unfold maxLen; omega)
      have HWf : Hid ((Lit.int .i64 (s.out.length : Int)).wf = true) := Lib.hid (wf_small (by omega) (by have := HOk.out.len; omega))
      have HL63 : Hid (s.out.length + 1 ≤ maxLen) := Lib.hid (by unfold maxLen; have := HOk.out.len; omega)
      have HLb : Hid ((s.out.length + 1) * 40 ≤ 140737488355328) := Lib.hid (by have := HOk.out.len; omega)
      have HZ3 : Hid (∀ (w2 w3 : World), wr.heap.size + 2 ≤ w2.heap.size → w2.heap.size ≤ w3.heap.size → ∀ o, mb + 1 ≤ (w3.alloc o).heap.size) := Lib.hid fun w2 w3 h1 h2 o => by simp; omega
      obtain ⟨ua, uc, rfl⟩ := owns_shape HO.out
      cases hix : s.ix (thing x) with
      | none =>
        rw [hix] at HHas
        have HN1 : Hid (mStep s x = ⟨s.out ++ [x], updL s.ix (thing x) s.out.length⟩) := Lib.hid (by unfold mStep joins; simp only [hix])
        clear hix
        go_wp2_with (at_lookup; refine wpList_lookup_own_ok_int _ rfl _ _ 71 rfl 73 3 .i64 thingLaw Try.underlying71 Try.underlying3 (zeroInt _) mb n _ rfl ((HM.out.alloc _).alloc _) _ _ rfl HKey.out ?_; intro c hat hwc; rw [HHas.out]; have HAt := Lib.hid hat; clear hat hwc)
        go_quiet (fail)
        have HX2 := Lib.hid (HX.out nq); have HT2 := Lib.hid (HTg.out nq); have HO2 := Lib.hid (HO1.out nq); have HM2 := Lib.hid (HM1.out nq); have HB2 := Lib.hid (HB2.out nq); have hz2 := HZ2.out nq
        clear HX HTg HO1 HM1 HZ2
        generalize ((wr.alloc (.cells #[.int .i64 x.fr, .int .i64 x.to, .int .i64 x.va, .int .i64 x.ki, .int .i64 x.nn] 38)).alloc (.cells #[.int .i64 x.va, .int .i64 x.ki, .int .i64 x.nn] 73)).drewN nq = w2 at *
        generalize wr.heap.size = q at *

        have HZ3 := Lib.hid (HZ3.out w2 · hz2)
        obtain ⟨t0, t1, t2⟩ := HT2.out
        go_wp2_with (first | (at_mapUpdate; refine wpList_mapUpdate_own _ rfl _ _ _ 71 rfl 73 3 thingLaw Try.underlying71 _ mb n _ rfl HM2.out HN63.out _ _ _ rfl rfl HKey.out _ [] (plainElem_int Try.underlying3 HWf.out) ?_; intro w3 hown3 hgrow3; have HM3 := Lib.hid hown3; have HG3 := Lib.hid hgrow3; clear hown3 hgrow3; have hx3 := HX2.out.map HG3.out HQm.out; obtain ⟨y0, y1, y2, y3, y4⟩ := hx3; have HNew := Lib.hid (cell_five_new w3 (.int .i64 x.fr) (.int .i64 x.to) (.int .i64 x.va) (.int .i64 x.ki) (.int .i64 x.nn) 38)) | (at_builtin; refine wpList_append_own_at _ rfl _ _ 22 rfl (mb + 1) 38 i0 (.agg #[.int .i64 0, .int .i64 0, .int .i64 0, .int .i64 0, .int .i64 0]) 5 40 Try.underlying22 hi ip0 ip1 ip2 rfl (by decide) _ _ _ rfl ((owns_map HO2.out HG3.out).alloc _) ⟨w3.heap.size, 0, none⟩ 1 1 [.int .i64 x.fr, .int .i64 x.to, .int .i64 x.va, .int .i64 x.ki, .int .i64 x.nn] rfl rfl HNew.out (one_cells5 _ _ _ _ _) HL63.out HLb.out (HZ3.out _ HG3.out.size _) ?_; intro v9 w9 hown9 hgrow9 _ hat9; have HG9 := Lib.hid hgrow9; have HO9 := Lib.hid hown9; clear hown9 hgrow9 hat9))
        have HEnd := Lib.hid (mrel_add HO2.out HB2.out (by omega) HM3.out HG3.out HG9.out)
        go_roundw
        case rel => exact ⟨k + 1, by omega, by go_num, by rw [HNx.out, HN1.out, List.length_append, encPl_snoc]; exact HO9.out, ⟨n + 1, _, by omega, HEnd.out.1, by rw [HNx.out, HN1.out]; exact HMd.out.put HGood.out _⟩, HEnd.out.2.1, HEnd.out.2.2⟩
        case measure => simp [intOf]; omega
      | some i =>
        rw [hix] at HHas
        have HY := Lib.hid (HMd.out.val x i HGood.out hix (.lit (.int .i64 0)))
        have hil := HOk.out.lt _ _ hix
        obtain ⟨g, gc, hue, hgc, hgb, hgs, hpl, hfz, hset⟩ := owns_row5 HO.out hil
        simp only [Value.slice.injEq, true_and] at hue
        obtain ⟨rfl, rfl⟩ := hue
        obtain ⟨d0, d1, d2, d3, d4⟩ := hpl
        have HSet := Lib.hid hset; have HFz := Lib.hid hfz; have HPl0 := Lib.hid d1
        have hii : (i : Int) < (s.out.length : Int) := by omega
        have hi0 : (0 : Int) ≤ (i : Int) := by omega
        clear hset hfz d0 d2 d3 d4
        by_cases he : (at' s.out i).to = x.fr
        · have HN1 : Hid (mStep s x = ⟨setTo s.out i x.to, s.ix⟩) := Lib.hid (by unfold mStep joins; simp only [hix, if_pos he])
          have HE := Lib.hid he
          rw [he] at d1
          have hb1 : (x.fr == x.fr) = true := by simp
          clear he hix
          go_wp2_with (at_lookup; refine wpList_lookup_own_ok_int _ rfl _ _ 71 rfl 73 3 .i64 thingLaw Try.underlying71 Try.underlying3 (zeroInt _) mb n _ rfl ((HM.out.alloc _).alloc _) _ _ rfl HKey.out ?_; intro c hat hwc; rw [HHas.out]; obtain rfl : c = (i : Int) := (by rw [HY.out] at hat; simpa using hat.symm); clear hat hwc)
          go_quiet (fail)
          have HX2 := Lib.hid (HX.out nq); have HT2 := Lib.hid (HTg.out nq); have HO2 := Lib.hid (HO1.out nq); have HM2 := Lib.hid (HM1.out nq); have HB2 := Lib.hid (HB2.out nq); have hz2 := HZ2.out nq
          clear HX HTg HO1 HM1 HZ2
          generalize ((wr.alloc (.cells #[.int .i64 x.fr, .int .i64 x.to, .int .i64 x.va, .int .i64 x.ki, .int .i64 x.nn] 38)).alloc (.cells #[.int .i64 x.va, .int .i64 x.ki, .int .i64 x.nn] 73)).drewN nq = w2 at *
          generalize wr.heap.size = q at *

          have HZ3 := Lib.hid (HZ3.out w2 · hz2)
          obtain ⟨g2, gc2, hue2, _, _, hgs2, hpl2, hfz2, hset2⟩ := owns_row5 HO2.out hil
          simp only [Value.slice.injEq, Option.some.injEq, Addr.mk.injEq, true_and, and_true] at hue2
          obtain ⟨rfl, rfl⟩ := hue2
          have d1 := hpl2.c1
          have f1 := hfz2 (i * 5 + 1)
          have HSet2 := Lib.hid (hset2 x.to)
          obtain ⟨y0, y1, y2, y3, y4⟩ := HX2.out
          clear hset2 hfz2 hpl2
          go_wp2_with fail
          go_roundw
          case rel => exact ⟨k + 1, by omega, by go_num, by rw [HNx.out, HN1.out, setTo_len]; exact HSet2.out, ⟨n, D, by omega, World.ownsMap.setCell HM2.out (show mb ≠ g by omega) _, by rw [HNx.out, HN1.out]; exact HMd.out⟩, HB2.out.setCell (show mb ≤ g by omega) _, by simp [World.setCell]; omega⟩
          case measure => simp [intOf]; omega
        · have HN1 : Hid (mStep s x = ⟨s.out ++ [x], updL s.ix (thing x) s.out.length⟩) := Lib.hid (by unfold mStep joins; simp only [hix, if_neg he])
          have HE := Lib.hid he
          have hb1 : ((at' s.out i).to == x.fr) = false := beq_eq_false_iff_ne.2 he
          have hb2 : decide ((at' s.out i).to = x.fr) = false := decide_eq_false he
          clear he hix
          go_wp2_with (at_lookup; refine wpList_lookup_own_ok_int _ rfl _ _ 71 rfl 73 3 .i64 thingLaw Try.underlying71 Try.underlying3 (zeroInt _) mb n _ rfl ((HM.out.alloc _).alloc _) _ _ rfl HKey.out ?_; intro c hat hwc; rw [HHas.out]; obtain rfl : c = (i : Int) := (by rw [HY.out] at hat; simpa using hat.symm); clear hat hwc)
          go_quiet (fail)
          have HX2 := Lib.hid (HX.out nq); have HT2 := Lib.hid (HTg.out nq); have HO2 := Lib.hid (HO1.out nq); have HM2 := Lib.hid (HM1.out nq); have HB2 := Lib.hid (HB2.out nq); have hz2 := HZ2.out nq
          clear HX HTg HO1 HM1 HZ2
          generalize ((wr.alloc (.cells #[.int .i64 x.fr, .int .i64 x.to, .int .i64 x.va, .int .i64 x.ki, .int .i64 x.nn] 38)).alloc (.cells #[.int .i64 x.va, .int .i64 x.ki, .int .i64 x.nn] 73)).drewN nq = w2 at *
          generalize wr.heap.size = q at *

          have HZ3 := Lib.hid (HZ3.out w2 · hz2)
          obtain ⟨t0, t1, t2⟩ := HT2.out
          go_wp2_with (first | (at_mapUpdate; refine wpList_mapUpdate_own _ rfl _ _ _ 71 rfl 73 3 thingLaw Try.underlying71 _ mb n _ rfl HM2.out HN63.out _ _ _ rfl rfl HKey.out _ [] (plainElem_int Try.underlying3 HWf.out) ?_; intro w3 hown3 hgrow3; have HM3 := Lib.hid hown3; have HG3 := Lib.hid hgrow3; clear hown3 hgrow3; have hx3 := HX2.out.map HG3.out HQm.out; obtain ⟨y0, y1, y2, y3, y4⟩ := hx3; have HNew := Lib.hid (cell_five_new w3 (.int .i64 x.fr) (.int .i64 x.to) (.int .i64 x.va) (.int .i64 x.ki) (.int .i64 x.nn) 38)) | (at_builtin; refine wpList_append_own_at _ rfl _ _ 22 rfl (mb + 1) 38 i0 (.agg #[.int .i64 0, .int .i64 0, .int .i64 0, .int .i64 0, .int .i64 0]) 5 40 Try.underlying22 hi ip0 ip1 ip2 rfl (by decide) _ _ _ rfl ((owns_map HO2.out HG3.out).alloc _) ⟨w3.heap.size, 0, none⟩ 1 1 [.int .i64 x.fr, .int .i64 x.to, .int .i64 x.va, .int .i64 x.ki, .int .i64 x.nn] rfl rfl HNew.out (one_cells5 _ _ _ _ _) HL63.out HLb.out (HZ3.out _ HG3.out.size _) ?_; intro v9 w9 hown9 hgrow9 _ hat9; have HG9 := Lib.hid hgrow9; have HO9 := Lib.hid hown9; clear hown9 hgrow9 hat9))
          have HEnd := Lib.hid (mrel_add HO2.out HB2.out (by omega) HM3.out HG3.out HG9.out)
          go_roundw
          case rel => exact ⟨k + 1, by omega, by go_num, by rw [HNx.out, HN1.out, List.length_append, encPl_snoc]; exact HO9.out, ⟨n + 1, _, by omega, HEnd.out.1, by rw [HNx.out, HN1.out]; exact HMd.out.put HGood.out _⟩, HEnd.out.2.1, HEnd.out.2.2⟩
          case measure => simp [intOf]; omega
    · obtain rfl : k = l.length := by omega
      have hki : ¬ (l.length : Int) < (l.length : Int) := by omega
      have hol := (mOk_run l l.length (Nat.le_refl _)).len
      have HBl := Lib.hid (HB1.out.trans (hb.mono (by omega)))
      have HSo := Lib.hid (sort_any _ _ _ _ ho (by omega))
      have HO := Lib.hid ho
      have hgb : ∀ g, Value.ownBlock _ = some g → w.heap.size ≤ g := fun g hg => Nat.le_trans (by omega) (owns_block ho hg).1
      have HGb := Lib.hid hgb
      clear ho hm hmd hb hgb
      go_wp2_with fail
      refine HSo.out.mono ?_; rintro e w5 ⟨rfl, ho5, hg5⟩
      have HB5 := Lib.hid (HBl.out.grown hg5 HBl.out.size HGb.out)
      have HO5 := Lib.hid ho5
      obtain ⟨ua, uc, rfl⟩ := owns_shape ho5
      clear ho5 hg5
      go_wp2_with fail
      go_ret2
      refine ⟨⟨_, rfl, HP.out _ _ (mb + 1) (by omega) ?_⟩, HB5.out⟩
      rw [sortP_len]
      exact HO5.out
end Go.Proofs.Ytmhneonebjcieaa
