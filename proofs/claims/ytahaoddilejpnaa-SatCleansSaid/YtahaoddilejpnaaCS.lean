/- slices.CompactFunc of lists of numbers. -/
import Derived.Test.YtahaoddilejpnaaCR
import Derived.Lib.SliceRun
namespace Go.Proofs.Ytahaoddilejpnaa
open Go.RowKit

theorem RowsAre.setCell {w : World} {base g : Nat} {L : List (List Int)} {vals : List Value} (h : RowsAre w base (some g) L vals) (j : Nat) (x : Value) : RowsAre (w.setCell ⟨g, j, none⟩ x) base (some g) L vals := fun k hk => by
  obtain ⟨a, cap, h1, h2, h0, h3, h4⟩ := h k hk
  refine ⟨a, cap, h1, h2, h0, fun i hi => ?_, fun b off e => ⟨(h4 b off e).1, by simpa using (h4 b off e).2.1, (h4 b off e).2.2⟩⟩
  obtain ⟨b, off, rfl, hc⟩ := h3 i hi
  exact ⟨b, off, rfl, by rw [World.cell?_setCell_other _ _ _ _ (fun e => (h4 b off rfl).2.2 (by simp at e; exact congrArg some e.1.symm))]; exact hc⟩
/-- The row, and what its values are. -/
structure Cur (w : World) (base g c m : Nat) (L : List (List Int)) (vals cur : List Value) : Prop where
  own : w.ownsRow base 40 1 (.slice (some ⟨g, 0, none⟩) m c) m cur
  are : RowsAre w base (some g) L vals
theorem Cur.below {w w' : World} {base g c m : Nat} {L : List (List Int)} {vals cur : List Value} (h : Cur w base g c m L vals cur) (hb : Below w.heap.size w w') : Cur w' base g c m L vals cur := ⟨owns_below h.own hb, h.are.below hb⟩
theorem Cur.set {w : World} {base g c m : Nat} {L : List (List Int)} {vals cur : List Value} (h : Cur w base g c m L vals cur) (j : Nat) (x : Value) : Cur (w.setCell ⟨g, j, none⟩ x) base g c m L vals (cur.set j x) := ⟨owns_set h.own j x, h.are.setCell j x⟩
theorem Cur.sets {base g c m : Nat} {L : List (List Int)} {vals : List Value} : ∀ (vs : List Value) (o : Nat) (w : World) (cur : List Value), Cur w base g c m L vals cur → ∃ cur', Cur (w.setCells g o vs) base g c m L vals cur' ∧ cur'.take o = cur.take o
  | [], o, w, cur, h => ⟨cur, h, rfl⟩
  | v :: r, o, w, cur, h => by
    obtain ⟨cur', h1, h2⟩ := Cur.sets r (o + 1) _ _ (h.set o v)
    refine ⟨cur', h1, ?_⟩
    have h3 := congrArg (List.take o) h2
    rw [List.take_take, List.take_take, Nat.min_eq_left (by omega)] at h3
    rw [h3, List.take_set_of_le (Nat.le_refl _)]
theorem Cur.base_le {w : World} {base g c m : Nat} {L : List (List Int)} {vals cur : List Value} (h : Cur w base g c m L vals cur) : base ≤ g ∧ g < w.heap.size := owns_lt h.own rfl
theorem Cur.cell {w : World} {base g c m : Nat} {L : List (List Int)} {vals cur : List Value} (h : Cur w base g c m L vals cur) (j : Nat) (hj : j < m) : w.cell? ⟨g, j, none⟩ = cur[j]? := by
  have := World.ownsRow.cellAt h.own j (by omega)
  exact this
theorem Cur.free {w : World} {base g c m : Nat} {L : List (List Int)} {vals cur : List Value} (h : Cur w base g c m L vals cur) (j : Nat) : w.frozen? ⟨g, j, none⟩ = false := World.ownsRow.frozenAt h.own j
theorem Cur.len {w : World} {base g c m : Nat} {L : List (List Int)} {vals cur : List Value} (h : Cur w base g c m L vals cur) : cur.length = m := by have := h.own.1; omega
/-- The first element, and those that differ from the one before. -/
def keepsL (L : List (List Int)) (i : Nat) : Bool := i == 0 || L.getD i [] != L.getD (i - 1) []
def keptI (L : List (List Int)) (i : Nat) : List Nat := (List.range i).filter (keepsL L)
theorem kept_succ (L : List (List Int)) (i : Nat) : keptI L (i + 1) = if keepsL L i = true then keptI L i ++ [i] else keptI L i := by
  unfold keptI
  rw [List.range_succ, List.filter_append]
  by_cases h : keepsL L i = true <;> simp [h]
theorem kept_le (L : List (List Int)) (i : Nat) : (keptI L i).length ≤ i := by
  have := List.length_filter_le (keepsL L) (List.range i)
  rw [List.length_range] at this
  exact this
theorem kept_lt {L : List (List Int)} {i k : Nat} (h : k ∈ keptI L i) : k < i := List.mem_range.1 (List.mem_filter.1 h).1
def compG (L : List (List Int)) : List (List Int) := (keptI L L.length).map fun i => L.getD i []
def nilV : Value := .slice none 0 0
def pickV (vals : List Value) (l : List Nat) : List Value := l.map fun i => vals.getD i nilV
/-- Of rows in a row the picked ones. -/
theorem RowsAre.pick {w : World} {base : Nat} {row : Option Nat} {L : List (List Int)} {vals : List Value} (h : RowsAre w base row L vals) (l : List Nat) (hl : ∀ i ∈ l, i < L.length) : RowsAre w base row (l.map fun i => L.getD i []) (pickV vals l) := fun k hk => by
  rw [List.length_map] at hk
  obtain ⟨a, cap, h1, h2⟩ := h (l[k]) (hl _ (List.getElem_mem hk))
  have e : (l.map fun i => L.getD i []).getD k [] = L.getD l[k] [] := by
    rw [List.getD_eq_getElem?_getD, List.getElem?_map, List.getElem?_eq_getElem hk]; rfl
  rw [e]
  refine ⟨a, cap, ?_, h2⟩
  unfold pickV
  rw [List.getElem?_map, List.getElem?_eq_getElem hk]
  simp only [Option.map_some]
  rw [List.getD_eq_getElem?_getD, h1]; rfl
theorem pick_range {L : List (List Int)} {n : Nat} (h : keptI L n = List.range n) (hn : n = L.length) : compG L = L := by
  unfold compG
  rw [← hn, h]
  apply List.ext_getElem
  · simp [hn]
  · intro i h1 h2
    simp [List.getD_eq_getElem?_getD, h2]
/-- What the row holds in the second loop: position p is looked at. -/
structure Two (L : List (List Int)) (vals cur : List Value) (p : Nat) : Prop where
  low : cur.take (keptI L p).length = pickV vals (keptI L p)
  high : ∀ j, p ≤ j + 1 → cur[j]? = vals[j]?
  gap : (keptI L p).length + 1 ≤ p
theorem Two.drop {L : List (List Int)} {vals cur : List Value} {p : Nat} (h : Two L vals cur p) (hp : keepsL L p = false) : Two L vals cur (p + 1) := by
  have e : keptI L (p + 1) = keptI L p := by rw [kept_succ, if_neg (by rw [hp]; decide)]
  exact ⟨by rw [e]; exact h.low, fun j hj => h.high j (by omega), by rw [e]; have := h.gap; omega⟩
theorem Two.keep {L : List (List Int)} {vals cur : List Value} {p : Nat} (h : Two L vals cur p) (hp : keepsL L p = true) (hl : (keptI L p).length < cur.length) : Two L vals (cur.set (keptI L p).length (vals.getD p nilV)) (p + 1) := by
  have e : keptI L (p + 1) = keptI L p ++ [p] := by rw [kept_succ, if_pos hp]
  have hg := h.gap
  refine ⟨?_, fun j hj => ?_, by rw [e, List.length_append, List.length_singleton]; omega⟩
  · rw [e, List.length_append, List.length_singleton]
    unfold pickV
    rw [List.map_append]
    have := h.low
    unfold pickV at this
    rw [← this]
    rw [List.take_succ_eq_append_getElem (by simpa using hl), List.take_set_of_le (Nat.le_refl _), List.getElem_set_self]
    rfl
  · rw [List.getElem?_set_ne (by omega)]
    exact h.high j (by omega)
theorem Two.start {L : List (List Int)} {vals : List Value} {k : Nat} (h : keptI L k = List.range k) (h1 : keepsL L k = false) (hk : k < L.length) (hv : vals.length = L.length) : Two L vals vals (k + 1) := by
  have e : keptI L (k + 1) = List.range k := by rw [kept_succ, if_neg (by rw [h1]; decide), h]
  refine ⟨?_, fun _ _ => rfl, by rw [e, List.length_range]; omega⟩
  rw [e, List.length_range]
  unfold pickV
  apply List.ext_getElem
  · simp; omega
  · intro i h1 h2
    simp only [List.length_take] at h1
    simp [List.getD_eq_getElem?_getD, List.getElem?_eq_getElem (show i < vals.length by omega)]
theorem run_succ {L : List (List Int)} {k : Nat} (h : keptI L k = List.range k) (h1 : keepsL L k = true) : keptI L (k + 1) = List.range (k + 1) := by
  rw [kept_succ, if_pos h1, h, List.range_succ]
theorem slice_of {w : World} {base : Nat} {row : Option Nat} {L : List (List Int)} {vals : List Value} (h : RowsAre w base row L vals) {k : Nat} (hk : k < L.length) : ∃ a cap, vals[k]? = some (.slice a (L.getD k []).length cap) ∧ vals.getD k nilV = .slice a (L.getD k []).length cap ∧ IntsIn w a (L.getD k []) := by
  obtain ⟨a, cap, h1, _, _, h3, _⟩ := h k hk
  exact ⟨a, cap, h1, by rw [List.getD_eq_getElem?_getD, h1]; rfl, h3⟩
theorem below_sets {B g : Nat} {w : World} (hg : B ≤ g) : ∀ (vs : List Value) (o : Nat) (w1 : World), Below B w w1 → Below B w (w1.setCells g o vs)
  | [], _, _, h => h
  | v :: r, o, _, h => below_sets hg r (o + 1) _ (h.setCell hg v)
theorem zero_row (w : World) : (zeroValue 40).run Try.prog w = .ok nilV w := by kernel_rfl
/-- What was not frozen is not frozen. -/
def FrzKeep (w w' : World) : Prop := ∀ b j, b < w.heap.size → w.frozen? ⟨b, j, none⟩ = false → w'.frozen? ⟨b, j, none⟩ = false
theorem FrzKeep.refl (w : World) : FrzKeep w w := fun _ _ _ h => h
theorem FrzKeep.below {w w1 w2 : World} (h : FrzKeep w w1) (hs : w.heap.size ≤ w1.heap.size) (hb : Below w1.heap.size w1 w2) : FrzKeep w w2 := fun b j hbs hf => by
  rw [World.frozen?_of_block (w := w1) (hb.block b (by omega))]
  exact h b j hbs hf
theorem FrzKeep.setCell {w w1 : World} (h : FrzKeep w w1) (a : Addr) (x : Value) : FrzKeep w (w1.setCell a x) := fun b j hbs hf => by
  rw [World.frozen?_setCell]
  exact h b j hbs hf
theorem FrzKeep.setCells {w w1 : World} (h : FrzKeep w w1) (g o : Nat) (vs : List Value) : FrzKeep w (w1.setCells g o vs) := fun b j hbs hf => by
  rw [World.frozen?_setCells]
  exact h b j hbs hf
theorem FrzKeep.trans {w w1 w2 : World} (h : FrzKeep w w1) (hs : w.heap.size ≤ w1.heap.size) (h2 : FrzKeep w1 w2) : FrzKeep w w2 := fun b j hbs hf => h2 b j (by omega) (h b j hbs hf)
theorem pick_mem {vals : List Value} {l : List Nat} (h : ∀ i ∈ l, i < vals.length) : ∀ x ∈ pickV vals l, x ∈ vals := fun x hx => by
  obtain ⟨i, hi, rfl⟩ := List.mem_map.1 hx
  exact getD_mem vals nilV i (h i hi)
theorem below_on {B g : Nat} {w w1 w2 : World} (h : Below B w w1) (h2 : Below w1.heap.size w1 w2) (hg : B ≤ g ∧ g < w1.heap.size) : Below B w w2 := h.trans (h2.mono (by omega))
def CompPost (base : Nat) (L : List (List Int)) (vals : List Value) (w : World) (e : Ending) (w' : World) : Prop :=
  (∃ v' vals', e = .returned v' ∧ w'.ownsRow base 40 1 v' (compG L).length vals' ∧ RowsAre w' base v'.ownBlock (compG L) vals' ∧ ∀ x ∈ vals', x ∈ vals) ∧ Below base w w' ∧ FrzKeep w w'
theorem compPost {base : Nat} {L : List (List Int)} {vals vals' : List Value} {w w' : World} {v' : Value} (h1 : w'.ownsRow base 40 1 v' (compG L).length vals') (h2 : RowsAre w' base v'.ownBlock (compG L) vals') (h3 : ∀ x ∈ vals', x ∈ vals) (h4 : Below base w w') (h5 : FrzKeep w w') : CompPost base L vals w (.returned v') w' := by
  unfold CompPost
  exact ⟨⟨v', vals', rfl, h1, h2, h3⟩, h4, h5⟩
set_option maxRecDepth 100000 in
set_option maxHeartbeats 4000000 in
theorem compactF_any (base : Nat) (v : Value) (L : List (List Int)) (vals : List Value) (w : World) (ho : w.ownsRow base 40 1 v L.length vals) (har : RowsAre w base v.ownBlock L vals) (hs : Short L) :
    Calls Try.prog 55 #[v, .func (.func 56) #[] #[]] w (CompPost base L vals w) := by
  obtain ⟨va, vc, rfl⟩ := owns_shape ho
  have hll := hs.len
  by_cases h2 : L.length < 2
  · have hcomp : compG L = L := pick_range (n := L.length) (by
      have hk : ∀ j, j < 2 → j < L.length → keepsL L j = true := fun j _ hj => by
        obtain rfl : j = 0 := by omega
        rfl
      rcases Nat.lt_or_ge 0 L.length with h0 | h0
      · have : L.length = 0 + 1 := by omega
        rw [this]; exact run_succ rfl rfl
      · have : L.length = 0 := by omega
        rw [this]; rfl) rfl
    have HR : Hid (∃ vals', w.ownsRow base 40 1 (.slice va L.length vc) (compG L).length vals' ∧ RowsAre w base (Value.slice va L.length vc).ownBlock (compG L) vals' ∧ ∀ x ∈ vals', x ∈ vals) := Lib.hid (by rw [hcomp]; exact ⟨vals, ho, har, fun _ h => h⟩)
    clear ho har hcomp hs
    generalize L.length = n at *
    have h2i : (n : Int) < 2 := by omega
    go_enter Try.func55, Try.ntmps55
    go_wp2_with fail
    go_ret
    obtain ⟨vals', r⟩ := HR.out
    exact compPost r.1 r.2.1 r.2.2 ⟨rfl, rfl, rfl, Nat.le_refl _, fun _ _ => rfl⟩ (FrzKeep.refl _)
  obtain ⟨g, c, ev, hlc, hcm, hbg, hgs, -, -⟩ := owns_cells ho (by omega)
  cases ev
  have HC0 : Hid (Cur w base g vc L.length L vals vals) := Lib.hid ⟨ho, har⟩
  have HR := Lib.hid hs.row
  have HEq := Lib.hid (fun (x y : List Int) a b ca cb W (h1 : IntsIn W a x) (h2 : IntsIn W b y) (h3 : x.length ≤ 1000000) => eqL_any x y a b ca cb W h1 h2 h3)
  have HVl := Lib.hid (show vals.length = L.length by have := ho.1; omega)
  have HVm : Hid (∀ l : List Nat, (∀ i ∈ l, i < L.length) → ∀ x ∈ pickV vals l, x ∈ vals) := Lib.hid (fun l h => pick_mem (by rw [show vals.length = L.length by have := ho.1; omega]; exact h))
  have HLm := Lib.hid (show vc ≤ maxLen from hcm)
  have hvc : vc ≤ 9223372036854775807 := hcm
  have HVc := Lib.hid hvc
  clear ho har hs hvc hcm
  have h2i : ¬ (L.length : Int) < 2 := by omega
  have h2n : 2 ≤ L.length := by omega
  clear h2
  generalize hm : L.length = m at *
  have HM := Lib.hid hm; clear hm
  go_enter Try.func55, Try.ntmps55
  go_wp2_with fail
  go_loopw [5] (fun i wr => ∃ k : Nat, 1 ≤ k ∧ k ≤ m ∧ i = .int .i64 k ∧ Hid (keptI L k = List.range k) ∧ Cur wr base g vc m L vals vals ∧ Below base w wr ∧ FrzKeep w wr) (fun i _ => m - (intOf i).toNat)
  case atStart => exact ⟨1, Nat.le_refl _, by omega, rfl, Lib.hid (run_succ (k := 0) rfl rfl), HC0.out, ⟨rfl, rfl, rfl, Nat.le_refl _, fun _ _ => rfl⟩, FrzKeep.refl _⟩
  case round =>
    obtain ⟨k, hk1, hk, rfl, HK, hcur, hb, hfk⟩ := hrel
    have HCu := Lib.hid hcur; have HBw := Lib.hid hb; have HFk := Lib.hid hfk
    have HSz : Hid (w.heap.size ≤ wr.heap.size) := Lib.hid hb.size
    clear hcur hb hfk
    have hbg2 := HCu.out.base_le
    by_cases hlt : k < m
    · have hki : (k : Int) < (m : Int) := by omega
      obtain ⟨a1, c1, hv1, -, hi1⟩ := slice_of HCu.out.are (k := k) (by rw [HM.out]; exact hlt)
      obtain ⟨a0, c0, hv0, -, hi0⟩ := slice_of HCu.out.are (k := k - 1) (by rw [HM.out]; omega)
      have hc1 := HCu.out.cell k hlt
      have hc0 := HCu.out.cell (k - 1) (by omega)
      rw [hv1] at hc1; rw [hv0] at hc0
      have HE := Lib.hid (fun W (hW : Below wr.heap.size wr W) => HEq.out (L.getD k []) (L.getD (k - 1) []) a1 a0 c1 c0 W (hi1.below hW) (hi0.below hW) (by have := HR.out k hlt; omega))
      have HKs := Lib.hid (show keepsL L k = (L.getD k [] != L.getD (k - 1) []) by unfold keepsL; rw [show (k == 0) = false from beq_eq_false_iff_ne.2 (by omega), Bool.false_or])
      clear hv1 hv0 hi1 hi0 
      have hkm : ((k - 1 : Nat) : Int) < (m : Int) := by omega
      have hkn : (0 : Int) ≤ ((k - 1 : Nat) : Int) := by omega
      have hk00 : (0 : Int) ≤ (k : Int) := by omega
      have hkw : IntKind.i64.wrap ((k : Int) - 1) = ((k - 1 : Nat) : Int) := by rw [IntKind.wrap_i64]; omega
      generalize hk' : k - 1 = k' at *
      have HK' := Lib.hid hk'; clear hk'
      generalize (L.getD k []).length = n1 at *
      generalize (L.getD k' []).length = n0 at *
      by_cases hq : L.getD k [] = L.getD k' []
      · rw [decide_eq_true hq] at HE
        have HF : Hid (keepsL L k = false) := Lib.hid (by rw [HKs.out, hq]; simp)
        clear hq
        go_upto_region 6 with (fail)
        go_region_held3 (fun w' => w'.cell? ⟨g, k, none⟩ = some (.slice a1 n1 c1) ∧ w'.cell? ⟨g, k', none⟩ = some (.slice a0 n0 c0)) (first | exact ⟨hc1, hc0⟩ | exact ⟨keep hc1 (by assumption), keep hc0 (by assumption)⟩) (first | (go_at_call 56; refine (HE.out _ (below_drew1 (Below.refl _ _))).mono ?_; rintro e w7 ⟨rfl, hb7⟩; have hb7 := (by first | exact below_of_drew hb7 | exact hb7)))
        have HC7 := Lib.hid (HCu.out.below hb7)
        have HB7 := Lib.hid (below_on HBw.out hb7 hbg2)
        have HF7 := Lib.hid (HFk.out.below HSz.out hb7)
        have HTwo := Lib.hid (Two.start HK.out HF.out (by rw [HM.out]; exact hlt) (by rw [HVl.out, HM.out]))
        clear hb7 hc1 hc0 hkw
        have hkc : (k : Int) ≤ (vc : Int) := by omega
        have hkm2 : (k : Int) ≤ (m : Int) := by omega
        have hmc : (m : Int) ≤ (vc : Int) := by omega
        have hsub : m - k ≤ 1000 := by omega
        go_wp2_with fail
        have HKS := Lib.hid (show (keptI L (k + 1)).length = k by rw [kept_succ, if_neg (by rw [HF.out]; decide), HK.out, List.length_range])
        clear HKs HE HK'
        go_loopw [5, 7] (fun kk k2 wr2 => ∃ (d : Nat) (cur : List Value), 1 ≤ d ∧ k + d ≤ m ∧ kk = .int .i64 (keptI L (k + d)).length ∧ k2 = .int .i64 d ∧ Hid (Two L vals cur (k + d)) ∧ Cur wr2 base g vc m L vals cur ∧ Below base w wr2 ∧ FrzKeep w wr2) (fun _ k2 _ => m - k - (intOf k2).toNat)
        case atStart => exact ⟨1, vals, Nat.le_refl _, by omega, by rw [HKS.out], rfl, HTwo, HC7.out, HB7.out, HF7.out⟩
        case round =>
          obtain ⟨d, cur, hd1, hd, rfl, rfl, HT, hcur, hb, hfk⟩ := hrel
          have HCu := Lib.hid hcur; have HBw := Lib.hid hb; have HFk := Lib.hid hfk
          have HSz : Hid (w.heap.size ≤ wr.heap.size) := Lib.hid hb.size
          have hbg2 := hcur.base_le
          have hqp := HT.out.gap
          have HCl := Lib.hid hcur.len
          clear hcur hb hfk
          by_cases hlt2 : k + d < m
          · have hdi : (d : Int) < ((m - k : Nat) : Int) := by omega
            obtain ⟨a1, c1, hv1, hvd, hi1⟩ := slice_of HCu.out.are (k := k + d) (by rw [HM.out]; exact hlt2)
            obtain ⟨a0, c0, hv0, -, hi0⟩ := slice_of HCu.out.are (k := k + d - 1) (by rw [HM.out]; omega)
            have hc1 := HCu.out.cell (k + d) hlt2
            have hc0 := HCu.out.cell (k + d - 1) (by omega)
            rw [HT.out.high _ (by omega), hv1] at hc1; rw [HT.out.high _ (by omega), hv0] at hc0
            obtain ⟨old, hcq⟩ : ∃ old, wr.cell? ⟨g, (keptI L (k + d)).length, none⟩ = some old := ⟨_, by rw [HCu.out.cell (keptI L (k + d)).length (by omega), List.getElem?_eq_getElem (by rw [HCl.out]; omega)]⟩
            have hfq := HCu.out.free (keptI L (k + d)).length
            have HE := Lib.hid (fun W (hW : Below wr.heap.size wr W) => HEq.out (L.getD (k + d) []) (L.getD (k + d - 1) []) a1 a0 c1 c0 W (hi1.below hW) (hi0.below hW) (by have := HR.out (k + d) hlt2; omega))
            have HKs := Lib.hid (show keepsL L (k + d) = (L.getD (k + d) [] != L.getD (k + d - 1) []) by unfold keepsL; rw [show (k + d == 0) = false from beq_eq_false_iff_ne.2 (by omega), Bool.false_or])
            have HDr := Lib.hid (fun h => HT.out.drop (p := k + d) h)
            have HKp := Lib.hid (fun h => HT.out.keep (p := k + d) h (by rw [HCl.out]; omega))
            rw [hvd] at HKp
            have HKS2 := Lib.hid (kept_succ L (k + d))
            clear hv1 hv0 hi1 hi0 hvd
            have e0 : k + d - 1 = k + (d - 1) := by omega
            rw [e0] at hc0 HKs HE
            clear e0
            have hdm : ((d - 1 : Nat) : Int) < ((m - k : Nat) : Int) := by omega
            have hdn : (0 : Int) ≤ ((d - 1 : Nat) : Int) := by omega
            have hd00 : (0 : Int) ≤ (d : Int) := by omega
            have hdw : IntKind.i64.wrap ((d : Int) - 1) = ((d - 1 : Nat) : Int) := by rw [IntKind.wrap_i64]; omega
            generalize hk' : d - 1 = d' at *
            have HK' := Lib.hid hk'; clear hk'
            generalize (L.getD (k + d) []).length = n1 at *
            generalize (L.getD (k + d') []).length = n0 at *
            by_cases hq : L.getD (k + d) [] = L.getD (k + d') []
            · rw [decide_eq_true hq] at HE
              have HF2 : Hid (keepsL L (k + d) = false) := Lib.hid (by rw [HKs.out, hq]; simp)
              clear hq
              generalize hqn : (keptI L (k + d)).length = q at *
              have HQn : Hid ((keptI L (k + d + 1)).length = q) := Lib.hid (by rw [HKS2.out, if_neg (by rw [HF2.out]; decide)]; exact hqn)
              clear hqn
              go_upto_region 11 with (fail)
              go_region_held3 (fun w' => w'.cell? ⟨g, k + d, none⟩ = some (.slice a1 n1 c1) ∧ w'.cell? ⟨g, k + d', none⟩ = some (.slice a0 n0 c0)) (first | exact ⟨hc1, hc0⟩ | exact ⟨keep hc1 (by assumption), keep hc0 (by assumption)⟩) (first | (go_at_call 56; refine (HE.out _ (below_drew1 (Below.refl _ _))).mono ?_; rintro e w7 ⟨rfl, hb7⟩; have hb7 := (by first | exact below_of_drew hb7 | exact hb7)))
              have HC8 := Lib.hid (HCu.out.below hb7)
              have HB8 := Lib.hid (below_on HBw.out hb7 hbg2)
              have HF8 := Lib.hid (HFk.out.below HSz.out hb7)
              clear hb7 hc1 hc0 hdw hcq hfq
              go_wp2_with fail
              go_roundw
              case rel => exact ⟨d + 1, cur, by omega, by omega, by rw [show k + (d + 1) = k + d + 1 from rfl, HQn.out], by go_num, Lib.hid (HDr.out HF2.out), HC8.out, HB8.out, HF8.out⟩
              case measure => simp [intOf]; omega
            · rw [decide_eq_false hq] at HE
              have HF2 : Hid (keepsL L (k + d) = true) := Lib.hid (by rw [HKs.out]; simpa using hq)
              clear hq
              generalize hqn : (keptI L (k + d)).length = q at *
              have HQn : Hid ((keptI L (k + d + 1)).length = q + 1) := Lib.hid (by rw [HKS2.out, if_pos HF2.out, List.length_append, hqn]; rfl)
              clear hqn
              go_upto_region 11 with (fail)
              go_region_held3 (fun w' => w'.cell? ⟨g, k + d, none⟩ = some (.slice a1 n1 c1) ∧ w'.cell? ⟨g, k + d', none⟩ = some (.slice a0 n0 c0)) (first | exact ⟨hc1, hc0⟩ | exact ⟨keep hc1 (by assumption), keep hc0 (by assumption)⟩) (first | (go_at_call 56; refine (HE.out _ (below_drew1 (Below.refl _ _))).mono ?_; rintro e w7 ⟨rfl, hb7⟩; have hb7 := (by first | exact below_of_drew hb7 | exact hb7)))
              have HC8 := Lib.hid (HCu.out.below hb7)
              have HB8 := Lib.hid (below_on HBw.out hb7 hbg2)
              have HF8 := Lib.hid (HFk.out.below HSz.out hb7)
              have hcq8 := keep hcq hb7
              have hc18 := keep hc1 hb7
              have hfq8 := HC8.out.free q
              clear hb7 hc1 hc0 hdw hcq hfq
              have hqm : (q : Int) < (m : Int) := by omega
              have hq0 : (0 : Int) ≤ (q : Int) := by omega
              go_wp2_with fail
              go_roundw
              case rel => exact ⟨d + 1, _, by omega, by omega, by rw [show k + (d + 1) = k + d + 1 from rfl, HQn.out]; go_num, by go_num, Lib.hid (HKp.out HF2.out), HC8.out.set _ _, HB8.out.setCell hbg2.1 _, HF8.out.setCell _ _⟩
              case measure => simp [intOf]; omega
          · have hkd : k + d = m := by omega
            rw [hkd] at HT hqp ⊢
            have HLow := Lib.hid HT.out.low
            have HQe : Hid ((keptI L m).map (fun i => L.getD i []) = compG L) := Lib.hid (by unfold compG; rw [HM.out])
            have HQl : Hid ((compG L).length = (keptI L m).length) := Lib.hid (by rw [← HQe.out, List.length_map])
            generalize hq : (keptI L m).length = q at *
            have hqm : (q : Int) ≤ (m : Int) := by omega
            have hqc : (q : Int) ≤ (vc : Int) := by omega
            have hq0 : (0 : Int) ≤ (q : Int) := by omega
            have hdi : ¬ (d : Int) < ((m - k : Nat) : Int) := by omega
            have hcl : ∀ ty, (Builtin.clear_ #[22] ty #[.slice (some ⟨g, q, none⟩) (m - q) (vc - q)]).run Try.prog wr = .ok (.tuple #[]) (wr.setCells g q (List.replicate (m - q) nilV)) := fun ty =>
              Lib.run_clear_slice wr 22 40 ty nilV Try.underlying22 (fun w => zero_row w) rfl rfl g q (m - q) (vc - q) (by omega) (fun j hj => by
                rw [HCu.out.cell (q + j) (by omega), List.getElem?_eq_getElem (by rw [HCl.out]; omega)]; rfl) (fun j _ => HCu.out.free _)
            have HRes : Hid ((∃ vals', (wr.setCells g q (List.replicate (m - q) nilV)).ownsRow base 40 1 (.slice (some ⟨g, 0, none⟩) q vc) (compG L).length vals' ∧ RowsAre (wr.setCells g q (List.replicate (m - q) nilV)) base (some g) (compG L) vals' ∧ ∀ x ∈ vals', x ∈ vals) ∧ Below base w (wr.setCells g q (List.replicate (m - q) nilV)) ∧ FrzKeep w (wr.setCells g q (List.replicate (m - q) nilV))) := Lib.hid (by
              obtain ⟨cur', h1, h2⟩ := Cur.sets (List.replicate (m - q) nilV) q wr cur HCu.out
              refine ⟨⟨pickV vals (keptI L m), ?_, ?_, HVm.out _ fun i hi => kept_lt hi⟩, below_sets hbg2.1 _ _ _ HBw.out, HFk.out.setCells _ _ _⟩
              · have := owns_take (n := m) (m := q) h1.own (by omega)
                rw [h2, HLow.out] at this
                rw [HQl.out]; exact this
              · have := h1.are.pick (keptI L m) (fun i hi => by rw [HM.out]; exact kept_lt hi)
                rw [HQe.out] at this
                exact this)
            generalize wr.setCells g q (List.replicate (m - q) nilV) = w9 at *
            go_wp2_with fail
            go_ret
            obtain ⟨⟨vals', r⟩, r2⟩ := HRes.out
            exact compPost r.1 r.2.1 r.2.2 r2.1 r2.2
      · rw [decide_eq_false hq] at HE
        have HF : Hid (keepsL L k = true) := Lib.hid (by rw [HKs.out]; simpa using hq)
        clear hq
        go_upto_region 6 with (fail)
        go_region_held3 (fun w' => w'.cell? ⟨g, k, none⟩ = some (.slice a1 n1 c1) ∧ w'.cell? ⟨g, k', none⟩ = some (.slice a0 n0 c0)) (first | exact ⟨hc1, hc0⟩ | exact ⟨keep hc1 (by assumption), keep hc0 (by assumption)⟩) (first | (go_at_call 56; refine (HE.out _ (below_drew1 (Below.refl _ _))).mono ?_; rintro e w7 ⟨rfl, hb7⟩; have hb7 := (by first | exact below_of_drew hb7 | exact hb7)))
        have HC7 := Lib.hid (HCu.out.below hb7)
        have HB7 := Lib.hid (below_on HBw.out hb7 hbg2)
        have HF7 := Lib.hid (HFk.out.below HSz.out hb7)
        clear hb7 hc1 hc0 hkw
        go_wp2_with fail
        go_roundw
        case rel => exact ⟨k + 1, by omega, by omega, by go_num, Lib.hid (run_succ HK.out HF.out), HC7.out, HB7.out, HF7.out⟩
        case measure => simp [intOf]; omega
    · obtain rfl : k = m := by omega
      have HR2 : Hid (wr.ownsRow base 40 1 (.slice (some ⟨g, 0, none⟩) k vc) (compG L).length vals ∧ RowsAre wr base (some g) (compG L) vals) := Lib.hid (by
        rw [pick_range HK.out HM.out.symm]
        have h := HCu.out
        refine ⟨?_, h.are⟩
        have := h.own
        rw [HM.out]; exact this)
      go_wp2_with fail
      go_ret
      exact compPost HR2.out.1 HR2.out.2 (fun _ h => h) HBw.out HFk.out
end Go.Proofs.Ytahaoddilejpnaa
