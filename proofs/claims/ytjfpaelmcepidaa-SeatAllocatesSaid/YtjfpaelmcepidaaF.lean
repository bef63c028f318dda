/- The open moves in memory; the walk of free. -/
import Derived.Test.YtjfpaelmcepidaaK
namespace Go.Proofs.Ytjfpaelmcepidaa
open Go.RowKit Go.Maps

theorem OwnM.below {w w' : World} {b n : Nat} {D : DataW Unit} (h : OwnM w b n D) (hb : Below w.heap.size w w') : OwnM w' b n D :=
  World.ownsMap.kept (row := none) h ⟨hb.os, hb.tape, hb.output, hb.size, fun k hk _ => hb.block k hk⟩ (by simp)
/-- A block is a map of registers. -/
def MapAt (w : World) (b : Nat) (f : PF) : Prop := ∃ n D, n ≤ 100 ∧ OwnM w b n D ∧ MF D f
theorem MapAt.below {w w' : World} {b : Nat} {f : PF} (h : MapAt w b f) (hb : Below w.heap.size w w') : MapAt w' b f := by
  obtain ⟨n, D, hn, ho, hm⟩ := h
  exact ⟨n, D, hn, OwnM.below ho hb, hm⟩
theorem MapAt.kept {w w' : World} {b : Nat} {f : PF} {row : Option Nat} (h : MapAt w b f) (hg : w.grownBy w' row) (hne : some b ≠ row) : MapAt w' b f := by
  obtain ⟨n, D, hn, ho, hm⟩ := h
  exact ⟨n, D, hn, World.ownsMap.kept ho hg hne, hm⟩
theorem MapAt.lt {w : World} {b : Nat} {f : PF} (h : MapAt w b f) : b < w.heap.size := by
  obtain ⟨n, D, _, ho, _⟩ := h
  exact World.ownsMap.lt ho
theorem MapAt.keys_le {w : World} {b : Nat} {f : PF} (_h : MapAt w b f) : (keysL f).length ≤ 31 := by
  unfold keysL
  exact Nat.le_trans (List.length_filter_le _ _) (by simp)
/-- The open moves as they lie: a block with two maps and the row so far. -/
structure OSt (w : World) (q b1 b2 base : Nat) (s : RSt) (dv : Value) : Prop where
  obj : w.heap[q]? = some (.cells #[.map (some b1), .map (some b2), dv] 127 (0, 0))
  fr : MapAt w b1 s.fr
  cp : MapAt w b2 s.cp
  dn : w.ownsRow base 52 2 dv s.dn.length (encP s.dn)
  q0 : q < base
  b10 : b1 < base
  b20 : b2 < base
  ne : b1 ≠ b2
  le : base ≤ w.heap.size
theorem OSt.below {w w' : World} {q b1 b2 base : Nat} {s : RSt} {dv : Value} (h : OSt w q b1 b2 base s dv) (hb : Below w.heap.size w w') : OSt w' q b1 b2 base s dv :=
  ⟨by rw [hb.block q (lt_of_block h.obj)]; exact h.obj, h.fr.below hb, h.cp.below hb,
   h.dn.kept (row := none) ⟨hb.os, hb.tape, hb.output, hb.size, fun k hk _ => hb.block k hk⟩ (by cases hv : dv.ownBlock <;> simp), h.q0, h.b10, h.b20, h.ne, Nat.le_trans h.le hb.size⟩
theorem OSt.c0 {w : World} {q b1 b2 base : Nat} {s : RSt} {dv : Value} (h : OSt w q b1 b2 base s dv) : w.cell? ⟨q, 0, none⟩ = some (.map (some b1)) := by
  rw [cell_of_row w q 0 _ _ _ h.obj]; rfl
theorem OSt.c1 {w : World} {q b1 b2 base : Nat} {s : RSt} {dv : Value} (h : OSt w q b1 b2 base s dv) : w.cell? ⟨q, 1, none⟩ = some (.map (some b2)) := by
  rw [cell_of_row w q 1 _ _ _ h.obj]; rfl
theorem OSt.c2 {w : World} {q b1 b2 base : Nat} {s : RSt} {dv : Value} (h : OSt w q b1 b2 base s dv) : w.cell? ⟨q, 2, none⟩ = some dv := by
  rw [cell_of_row w q 2 _ _ _ h.obj]; rfl
theorem OSt.f2 {w : World} {q b1 b2 base : Nat} {s : RSt} {dv : Value} (h : OSt w q b1 b2 base s dv) : w.frozen? ⟨q, 2, none⟩ = false := frozen_of_row w q 2 _ _ h.obj

/-- What has been read off the entries so far. -/
def RdOk (f : PF) (t : Nat) (left : Lit → Bool) (rd : Bool) : Prop := rd = true ↔ ∃ o, left (.int .i64 (o : Nat)) = false ∧ o ≠ t ∧ f o = some t
theorem RdOk.start {D : DataW Unit} {f : PF} {t : Nat} (h : MF D f) : RdOk f t (Maps.has D) false := by
  constructor
  · intro c; cases c
  · rintro ⟨o, h1, _, h3⟩
    rw [(h.has _).2 ⟨o, t, rfl, h3⟩] at h1; cases h1
theorem RdOk.step {f : PF} {t k y : Nat} {left : Lit → Bool} {rd : Bool} (h : RdOk f t left rd) (hl : left (.int .i64 (k : Nat)) = true) (hy : f k = some y) :
    RdOk f t (fun z => left z && !z.sameKey (.int .i64 (k : Nat))) (rd || (decide (k ≠ t) && decide (y = t))) := by
  unfold RdOk at *
  rw [Bool.or_eq_true, Bool.and_eq_true, decide_eq_true_iff, decide_eq_true_iff, h]
  have hs : ∀ o : Nat, (Lit.int .i64 (o : Int)).sameKey (.int .i64 (k : Int)) = true ↔ o = k := fun o => by
    rw [WideAt.sameKey_iff (ikl _)]
    simp
    omega
  constructor
  · rintro (⟨o, h1, h2, h3⟩ | ⟨h1, rfl⟩)
    · exact ⟨o, by show (left _ && _) = false; rw [h1]; rfl, h2, h3⟩
    · refine ⟨k, ?_, h1, hy⟩
      show (left _ && !_) = false
      rw [(hs k).2 rfl]; simp
  · rintro ⟨o, h1, h2, h3⟩
    have h1' : (left (.int .i64 (o : Int)) && !(Lit.int .i64 (o : Int)).sameKey (.int .i64 (k : Int))) = false := h1
    by_cases c : o = k
    · subst c
      rw [hy] at h3
      exact .inr ⟨h2, by simpa using h3⟩
    · refine .inl ⟨o, ?_, h2, h3⟩
      have : (Lit.int .i64 (o : Int)).sameKey (.int .i64 (k : Int)) = false := by
        rw [← Bool.not_eq_true]
        exact fun e => c ((hs o).1 e)
      rw [this] at h1'
      simpa using h1'
theorem RdOk.fin {D : DataW Unit} {f : PF} {t : Nat} {left : Lit → Bool} {rd : Bool} (hm : MF D f) (h : RdOk f t left rd) (hl : ∀ kl, left kl = false) : rd = readB f t := by
  rw [Bool.eq_iff_iff]
  unfold readB
  unfold RdOk at h
  rw [h, List.any_eq_true]
  constructor
  · rintro ⟨o, _, h2, h3⟩
    refine ⟨o, keysL_mem.2 ⟨(hm.lt o t h3).1, by rw [h3]; rfl⟩, ?_⟩
    rw [Bool.and_eq_true, decide_eq_true_iff, decide_eq_true_iff]
    exact ⟨h2, h3⟩
  · rintro ⟨o, _, h2⟩
    rw [Bool.and_eq_true, decide_eq_true_iff, decide_eq_true_iff] at h2
    exact ⟨o, hl _, h2.1, h2.2⟩
theorem has_isSome {D : DataW Unit} {f : PF} (h : MF D f) (k : Nat) : Maps.has D (.int .i64 (k : Int)) = (f k).isSome := by
  rw [Bool.eq_iff_iff, h.has]
  constructor
  · rintro ⟨k', y', e, h'⟩
    obtain rfl : k = k' := by omega
    rw [h']; rfl
  · intro hs
    obtain ⟨y', h'⟩ := Option.isSome_iff_exists.1 hs
    exact ⟨k, y', rfl, h'⟩
/-- Among the first k keys none is free. -/
def NoneF (s : RSt) (k : Nat) : Prop := ((keysL s.fr).take k).find? (okF s) = none
theorem NoneF.zero (s : RSt) : NoneF s 0 := by simp [NoneF]
theorem NoneF.next {s : RSt} {k : Nat} (h : NoneF s k) (hk : k < (keysL s.fr).length) (hp : okF s ((keysL s.fr).getD k 0) = false) : NoneF s (k + 1) := by
  have e : (keysL s.fr).getD k 0 = (keysL s.fr)[k] := by rw [List.getD_eq_getElem?_getD, List.getElem?_eq_getElem hk]; rfl
  unfold NoneF at *
  rw [List.take_succ_eq_append_getElem hk, List.find?_append, h]
  rw [e] at hp
  simp [hp]
theorem NoneF.found {s : RSt} {k : Nat} (h : NoneF s k) (hk : k < (keysL s.fr).length) (hp : okF s ((keysL s.fr).getD k 0) = true) : freeO s = some ((keysL s.fr).getD k 0) := by
  have e : (keysL s.fr).getD k 0 = (keysL s.fr)[k] := by rw [List.getD_eq_getElem?_getD, List.getElem?_eq_getElem hk]; rfl
  unfold NoneF at h
  have h1 : ((keysL s.fr).take (k + 1)).find? (okF s) = some (keysL s.fr)[k] := by
    rw [List.take_succ_eq_append_getElem hk, List.find?_append, h]
    rw [e] at hp
    simp [hp]
  rw [e]
  unfold freeO
  have h2 : ((keysL s.fr).take (k + 1) ++ (keysL s.fr).drop (k + 1)).find? (okF s) = some (keysL s.fr)[k] := by rw [List.find?_append, h1]; rfl
  rwa [List.take_append_drop] at h2
theorem NoneF.fin {s : RSt} (h : NoneF s (keysL s.fr).length) : freeO s = none := by
  unfold NoneF at h; rwa [List.take_length] at h
theorem getD_mem {l : List Nat} {k : Nat} (h : k < l.length) : l.getD k 0 ∈ l := by
  rw [List.getD_eq_getElem?_getD, List.getElem?_eq_getElem h]; simp

set_option maxRecDepth 100000 in
set_option maxHeartbeats 2000000 in
theorem free_any (q b1 b2 base : Nat) (s : RSt) (dv : Value) (w : World) (h : OSt w q b1 b2 base s dv) :
    Calls Try.prog 81 #[.pointer (some ⟨q, 0, none⟩)] w fun e w' => e = .returned (.tuple #[.int .i64 ((freeO s).getD 0 : Nat), .bool (freeO s).isSome]) ∧ Below w.heap.size w w' := by
  obtain ⟨n1, D1, hn1, ho1, hm1⟩ := h.fr
  obtain ⟨n2, D2, hn2, ho2, hm2⟩ := h.cp
  have hc0 := h.c0; have hc1 := h.c1
  have hk31 := h.fr.keys_le
  have HKeys := Lib.hid (keys_any b1 n1 D1 s.fr w ho1 hm1 hk31)
  have HO1 := Lib.hid ho1; have HO2 := Lib.hid ho2; have HM1 := Lib.hid hm1; have HM2 := Lib.hid hm2
  have HC0 := Lib.hid hc0; have HC1 := Lib.hid hc1
  have HLt : Hid (∀ k, k < (keysL s.fr).length → (keysL s.fr).getD k 0 < 31) := Lib.hid fun k hk => (keysL_mem.1 (getD_mem hk)).1
  have HZ := Lib.hid (NoneF.zero s)
  have HFin : Hid (NoneF s (keysL s.fr).length → freeO s = none) := Lib.hid fun h => h.fin
  have HFnd : Hid (∀ k, NoneF s k → k < (keysL s.fr).length → okF s ((keysL s.fr).getD k 0) = true → freeO s = some ((keysL s.fr).getD k 0)) := Lib.hid fun k h1 h2 h3 => h1.found h2 h3
  have HNext : Hid (∀ k, NoneF s k → k < (keysL s.fr).length → okF s ((keysL s.fr).getD k 0) = false → NoneF s (k + 1)) := Lib.hid fun k h1 h2 h3 => h1.next h2 h3
  have HOk : Hid (∀ t, okF s t = (!readB s.fr t || (s.cp t).isSome)) := Lib.hid fun t => rfl
  clear ho1 ho2 hm1 hm2 hc1 h
  generalize hks : keysL s.fr = ks at *
  generalize freeO s = F at *
  go_enter Try.func81, Try.ntmps81
  go_wp2_with fail
  refine HKeys.out.mono ?_; rintro e w1 ⟨v1, rfl, ⟨ka, kc, rfl, hki⟩, hb1⟩
  have HKi := Lib.hid hki; have HB1 := Lib.hid hb1
  clear hki hb1
  go_wp2_with fail
  go_loopw [17] (fun i wr => ∃ k : Nat, k ≤ ks.length ∧ i = .int .i64 k ∧ NoneF s k ∧ Below w.heap.size w wr ∧ Below w1.heap.size w1 wr) (fun i _ => ks.length - (intOf i).toNat)
  case atStart => exact ⟨0, Nat.zero_le _, rfl, HZ.out, HB1.out, Below.refl _ _⟩
  case round =>
    obtain ⟨k, hk, rfl, hnf, hb, hb1⟩ := hrel
    by_cases hlt : k < ks.length
    · have hki : (k : Int) < (ks.length : Int) := by omega
      obtain ⟨kb, ko, rfl, hck⟩ := (HKi.out.below hb1) k hlt
      have hcr0 := keep HC0.out hb
      have HNf := Lib.hid hnf; have HB := Lib.hid hb; have HB1k := Lib.hid hb1
      have HOr := Lib.hid (OwnM.below HO1.out hb)
      have htl := HLt.out k hlt
      have HFk := Lib.hid (HFnd.out k hnf hlt); have HNk := Lib.hid (HNext.out k hnf hlt)
      clear hnf hb hb1
      generalize ks.getD k 0 = t at *
      go_wp2_with (first | (at_range; refine wpList_range_own _ rfl _ 56 rfl 3 3 intLaw Try.underlying56 _ b1 n1 _ rfl HOr.out ?_; intro w0 hrg0 hg0 hs0))
      go_frame
      have HR0 := Lib.hid (RdOk.start (t := t) HM1.out)
      have hb0 : Below w.heap.size w w0 := HB.out.trans ⟨hg0.os, hg0.tape, hg0.output, hg0.size, fun k hk => hg0.block k (Nat.lt_of_lt_of_le hk HB.out.size) (by simp)⟩
      have hb10 : Below w1.heap.size w1 w0 := HB1k.out.trans ⟨hg0.os, hg0.tape, hg0.output, hg0.size, fun k hk => hg0.block k (Nat.lt_of_lt_of_le hk HB1k.out.size) (by simp)⟩
      have HB0 := Lib.hid hb0; have HB10 := Lib.hid hb10; have HG0 := Lib.hid hrg0
      obtain ⟨r0, hr0⟩ : ∃ r0, r0 = wr.heap.size := ⟨_, rfl⟩
      have hrw : w1.heap.size ≤ r0 := by have := HB1k.out.size; omega
      have hww1 : w.heap.size ≤ w1.heap.size := HB1.out.size
      rw [← hr0] at HG0
      have HR00 := Lib.hid hr0
      rw [← hr0]
      clear hrg0 hg0 hb0 hb10 hs0 hr0
      go_loopw [6] (fun rv wr => ∃ (left : Lit → Bool) (cnt : Nat) (rd : Bool), rv = .bool rd ∧ wr.ranges Try.prog 3 (plainElem Try.prog 3) b1 r0 n1 D1 left cnt ∧ RdOk s.fr t left rd ∧ Below w.heap.size w wr ∧ Below w1.heap.size w1 wr)
        (fun _ wr => wr.rangeLeft b1 r0)
      case atStart => exact ⟨_, _, false, rfl, HG0.out, HR0.out, HB0.out, HB10.out⟩
      case round =>
        obtain ⟨left, cnt, rd, rfl, hrg, hrd, hb, hb1⟩ := hrel
        have HRg := Lib.hid hrg; have HRd := Lib.hid hrd; have HB := Lib.hid hb; have HB1 := Lib.hid hb1
        clear hrg hrd hb hb1
        go_wp2_with (first | (at_next; refine wpList_next_ranges_ii _ rfl _ rfl 3 3 .i64 .i64 intLaw Try.underlying3 Try.underlying3 b1 r0 n1 _ _ _ rfl HRg.out ?_ ?_))
        · intro _ hl0
          have hrf := HRd.out.fin HM1.out hl0
          have hcr1 := keep HC1.out HB.out
          have HOc := Lib.hid (OwnM.below HO2.out HB.out)
          have hhas := has_isSome HM2.out t
          have HHas := Lib.hid hhas
          have hok := HOk.out t
          rw [← hrf] at hok
          have HOkt := Lib.hid hok
          clear hrf hhas hok hl0
          cases hcp : (s.cp t).isSome
          · rw [hcp] at HHas HOkt
            cases rd
            · have HT : Hid (okF s t = true) := Lib.hid HOkt.out
              have HFt := Lib.hid (HFk.out HT.out)
              go_wp2_with (first | (at_lookup; refine wpList_lookup_own_ok_int _ rfl _ _ 56 rfl 3 3 .i64 intLaw Try.underlying56 Try.underlying3 (zeroInt _) b2 n2 _ rfl HOc.out _ _ rfl (key_nat (by omega)) ?_; intro c hat hwc; rw [HHas.out]))
              go_ret2
              exact ⟨by rw [HFt.out]; rfl, HB.out⟩
            · have HT : Hid (okF s t = false) := Lib.hid HOkt.out
              have HNt := Lib.hid (HNk.out HT.out)
              go_wp2_with (first | (at_lookup; refine wpList_lookup_own_ok_int _ rfl _ _ 56 rfl 3 3 .i64 intLaw Try.underlying56 Try.underlying3 (zeroInt _) b2 n2 _ rfl HOc.out _ _ rfl (key_nat (by omega)) ?_; intro c hat hwc; rw [HHas.out]))
              go_roundw
              case rel => exact ⟨k + 1, by omega, by go_num, HNt.out, HB.out, HB1.out⟩
              case measure => simp [intOf]; omega
          · rw [hcp] at HHas HOkt
            have HT : Hid (okF s t = true) := Lib.hid (by rw [HOkt.out]; simp)
            have HFt := Lib.hid (HFk.out HT.out)
            cases rd
            all_goals
              go_wp2_with (first | (at_lookup; refine wpList_lookup_own_ok_int _ rfl _ _ 56 rfl 3 3 .i64 intLaw Try.underlying56 Try.underlying3 (zeroInt _) b2 n2 _ rfl HOc.out _ _ rfl (key_nat (by omega)) ?_; intro c hat hwc; rw [HHas.out]))
              go_ret2
              exact ⟨by rw [HFt.out]; rfl, HB.out⟩
        · intro x c w2 cnt1 hwx hwc hlx hat hrg1 hlt1 hg1 hs1 hen
          obtain ⟨o, y, rfl, rfl, hy⟩ := HM1.out.at_int hat
          have HSt := Lib.hid (HRd.out.step hlx hy)
          have HR1 := Lib.hid hrg1
          have HB2 : Hid (Below w.heap.size w w2) := Lib.hid (HB.out.grown hg1 HB.out.size (fun k hk => by simp only [Option.some.injEq] at hk; omega))
          have HB12 : Hid (Below w1.heap.size w1 w2) := Lib.hid (HB1.out.grown hg1 HB1.out.size (fun k hk => by simp only [Option.some.injEq] at hk; omega))
          clear hwx hwc hlx hat hrg1 hg1 hs1 hy
          have hot : ((o : Int) != (t : Int)) = decide (o ≠ t) := by
            by_cases c : o = t
            · subst c; simp
            · simp [c]; omega
          have hyt : ((y : Int) == (t : Int)) = decide (y = t) := by
            by_cases c : y = t
            · subst c; simp
            · simp [c]; omega
          cases h1 : decide (o ≠ t) <;> cases h2 : decide (y = t) <;> cases rd
          all_goals
            rw [h1] at hot HSt
            rw [h2] at hyt HSt
            clear h1 h2
            go_wp2_with fail
            go_roundw
            case rel => exact ⟨_, cnt1, _, rfl, HR1.out, HSt.out, HB2.out, HB12.out⟩
            case measure => rw [HR1.out.left_eq, HRg.out.left_eq]; exact hlt1
    · obtain rfl : k = ks.length := by omega
      have HFn := Lib.hid (HFin.out hnf)
      clear hnf hb1
      go_wp2_with fail
      go_ret2
      exact ⟨by rw [HFn.out]; rfl, hb⟩
end Go.Proofs.Ytjfpaelmcepidaa
