/- The walk of slices.Reverse. -/
import Derived.Test.YtmljmmnofhhheaaWN
import Derived.RegionTactic
namespace Go.Proofs.Ytmljmmnofhhheaa
open Go.RowKit

/-- The numbers of a row as they lie after k exchanges from both ends. -/
def RevTo (xs : List Nat) (k : Nat) (cur : Array Value) : Prop :=
  ∀ m, m < xs.length → cur[m]? = some (.int .i64 (xs.getD (if m < k ∨ xs.length < m + 1 + k then xs.length - 1 - m else m) 0 : Nat))
theorem RevTo.fin {xs : List Nat} {k : Nat} {cur : Array Value} (h : RevTo xs k cur) (hk : xs.length ≤ 2 * k + 1) : ∀ m, m < xs.length → cur[m]? = some (.int .i64 (xs.reverse.getD m 0 : Nat)) := fun m hm => by
  rw [h m hm]
  have e : (if m < k ∨ xs.length < m + 1 + k then xs.length - 1 - m else m) = xs.length - 1 - m := by
    split
    · rfl
    · omega
  rw [e, List.getD_eq_getElem?_getD, List.getD_eq_getElem?_getD, List.getElem?_reverse hm]
theorem RevTo.next {xs : List Nat} {k j : Nat} {cur : Array Value} (h : RevTo xs k cur) (hj : xs.length = k + 1 + j) (hk : k < j) :
    RevTo xs (k + 1) ((cur.setIfInBounds k (.int .i64 (xs.getD j 0 : Nat))).setIfInBounds j (.int .i64 (xs.getD k 0 : Nat))) := fun m hm => by
  have hsz : k < cur.size ∧ j < cur.size ∧ m < cur.size := by
    refine ⟨?_, ?_, ?_⟩
    · have := h k (by omega)
      exact (Array.getElem?_eq_some_iff.1 this).1
    · have := h j (by omega)
      exact (Array.getElem?_eq_some_iff.1 this).1
    · exact (Array.getElem?_eq_some_iff.1 (h m hm)).1
  rw [Array.getElem?_setIfInBounds, Array.getElem?_setIfInBounds]
  by_cases c1 : j = m
  · subst c1
    have e : (if j < k + 1 ∨ xs.length < j + 1 + (k + 1) then xs.length - 1 - j else j) = k := by
      rw [if_pos (by omega)]; omega
    rw [if_pos rfl, e, if_pos (by simpa using hsz.2.1)]
  · rw [if_neg c1]
    by_cases c2 : k = m
    · subst c2
      have e : (if k < k + 1 ∨ xs.length < k + 1 + (k + 1) then xs.length - 1 - k else k) = j := by
        rw [if_pos (by omega)]; omega
      rw [if_pos rfl, e, if_pos hsz.1]
    · rw [if_neg c2, h m hm]
      have e : (if m < k + 1 ∨ xs.length < m + 1 + (k + 1) then xs.length - 1 - m else m) = (if m < k ∨ xs.length < m + 1 + k then xs.length - 1 - m else m) := by
        by_cases d : m < k ∨ xs.length < m + 1 + k
        · rw [if_pos d, if_pos (by omega)]
        · rw [if_neg d, if_neg (by omega)]
      rw [e]

theorem Touch.drew (q : Nat) (w : World) : Touch q w w.drew := ⟨rfl, rfl, rfl, rfl, fun _ _ => rfl⟩

set_option maxRecDepth 100000 in
set_option maxHeartbeats 2000000 in
theorem rev_any (b cap : Nat) (T : TypeId) (cur : Array Value) (xs : List Nat) (w : World) (hx : w.heap[b]? = some (.cells cur T (0, 0))) (hc : RevTo xs 0 cur) (hl : xs.length ≤ 1000) :
    Calls Try.prog 55 #[.slice (some ⟨b, 0, none⟩) xs.length cap] w fun e w' => e = .returned (.tuple #[]) ∧ Touch b w w' ∧ ∃ cur', w'.heap[b]? = some (.cells cur' T (0, 0)) ∧ ∀ m, m < xs.length → cur'[m]? = some (.int .i64 (xs.reverse.getD m 0 : Nat)) := by
  have HX := Lib.hid hx; have HC := Lib.hid hc
  clear hx hc
  go_enter Try.func55, Try.ntmps55
  go_wp2_with fail
  go_loopw [2, 3] (fun i j wr => ∃ (k : Nat) (jj : Int) (cur' : Array Value), i = .int .i64 k ∧ j = .int .i64 jj ∧ jj = xs.length - 1 - k ∧ 2 * k ≤ xs.length ∧ Touch b w wr ∧ wr.heap[b]? = some (.cells cur' T (0, 0)) ∧ RevTo xs k cur') (fun i _ _ => xs.length - (intOf i).toNat)
  case atStart => exact ⟨0, _, cur, rfl, rfl, by go_num, by omega, Touch.refl _ _, HX.out, HC.out⟩
  case round =>
    obtain ⟨k, jj, cur', rfl, rfl, hjj, hk2, hto, hxr, hr⟩ := hrel
    by_cases hlt : (k : Int) < jj
    · obtain ⟨j, rfl⟩ := Int.eq_ofNat_of_zero_le (show 0 ≤ jj by omega)
      have hk := hr k (by omega)
      have hj := hr j (by omega)
      rw [if_neg (by omega)] at hk hj
      have c1 := cell_of_row wr b k _ _ _ hxr
      have c2 := cell_of_row wr b j _ _ _ hxr
      rw [hk] at c1; rw [hj] at c2
      have f1 := frozen_of_row wr b k _ _ hxr
      have f2 := frozen_of_row wr b j _ _ hxr
      have hnx := hr.next (j := j) (by omega) (by omega)
      have hkl : (k : Int) < (xs.length : Int) := by omega
      have hjl : (j : Int) < (xs.length : Int) := by omega
      have HNx := Lib.hid hnx; have HTo := Lib.hid hto; have HXr := Lib.hid hxr
      have hbl := lt_of_block hxr
      have HJ : Hid (xs.length = k + 1 + j) := Lib.hid (by omega)
      clear hnx hto hxr hr hk hj hjj
      generalize xs.getD k 0 = x at *
      generalize xs.getD j 0 = y at *
      go_wp2_with fail
      go_region
      go_wp2_with fail
      go_roundw
      case rel => exact ⟨k + 1, (j : Int) - 1, _, by go_num, by go_num, by have := HJ.out; omega, by have := HJ.out; omega, ((HTo.out.trans (Touch.set _ _ _ _)).trans (Touch.set _ _ _ _)).trans (Touch.drew _ _), by
        show (((wr.setCell ⟨b, k, none⟩ (.int .i64 y)).setCell ⟨b, j, none⟩ (.int .i64 x))).heap[b]? = _
        rw [heap_setCell_same _ b j _ _ _ (heap_setCell_same _ b k _ _ _ HXr.out)], HNx.out⟩
      case measure => have := HJ.out; simp [intOf]; omega
    · have HF := Lib.hid (hr.fin (by omega))
      have HTo := Lib.hid hto; have HXr := Lib.hid hxr
      clear hr hto hxr
      go_wp2_with fail
      go_end0
      exact ⟨rfl, HTo.out, cur', HXr.out, HF.out⟩

/-- What Order answers. -/
def orderR (g : List (List Int)) : List Nat := if validE g = 0 then orderL (gN g) else []
theorem revTo_of {xs : List Nat} {cur : Array Value} (h : cur.toList.take (xs.length * 1) = encN xs) : RevTo xs 0 cur := fun m hm => by
  rw [if_neg (by omega)]
  have : (encN xs)[m]? = some (.int .i64 (xs.getD m 0 : Nat)) := by
    simp [encN, List.getElem?_eq_getElem hm, List.getD_eq_getElem?_getD]
  rw [← h, List.getElem?_take, if_pos (by omega)] at this
  simpa using this
theorem leftL_pos (g : Gr) : 0 < (leftL g).length := by
  unfold leftL
  rw [ovis_succ]
  simp

set_option maxRecDepth 100000 in
set_option maxHeartbeats 2000000 in
theorem Order_any (g0 : List (List Int)) (a : Option Addr) (cap : Nat) (w : World) (hin : RowsIn w a g0) (hs : Short g0) :
    Calls Try.prog 18 #[.slice a g0.length cap] w (ListPost (validE g0) (orderR g0) w) := by
  have hbl : Below w.heap.size w (w.alloc (.cells #[.slice a g0.length cap] 22)) := (Below.refl _ _).alloc (Nat.le_refl _) _
  have hc0 : (w.alloc (.cells #[.slice a g0.length cap] 22)).cell? ⟨w.heap.size, 0, none⟩ = some (.slice a g0.length cap) := by simp [go_sem]
  have HV := Lib.hid (Validate_any g0 a cap _ (hin.below hbl) hs)
  by_cases hv : validE g0 = 0
  · have hn : orderR g0 = (leftL (gN g0)).reverse := by unfold orderR orderL; rw [if_pos hv]
    have ok := valid_ok hv
    have hg := hin.graph hv
    have hlen : g0.length = (gN g0).length := by rw [gN_len]
    have hl10 := leftL_len ok
    have hl0 := leftL_pos (gN g0)
    rw [hn]; rw [hv] at HV; rw [hv]
    rw [hlen] at HV hc0 hbl; rw [hlen]
    clear hin hs hv hn hlen
    generalize gN g0 = g at *
    have HG := Lib.hid hg; have HOk := Lib.hid ok; have HBl := Lib.hid hbl
    clear hg ok hbl hc0
    generalize hXS : leftL g = xs at *
    have HXS : Hid ((ovis g 10 0 (fun _ => false, [])).2 = xs) := Lib.hid hXS
    clear hXS
    go_enter Try.func18, Try.ntmps18
    go_wp2_with fail
    refine HV.out.mono ?_; rintro e w1 ⟨rfl, hb1⟩
    have hc1 : w1.cell? ⟨w.heap.size, 0, none⟩ = some (.slice a g.length cap) := by rw [bc hb1 (b := w.heap.size) (by simp)]; simp [go_sem]
    have hB1 := HBl.out.trans (hb1.mono HBl.out.size)
    have HO := Lib.hid (fun w' h => order1_any w1 w.heap.size a cap g hc1 (HG.out.below hB1) HOk.out 10 0 (fun _ => false, []) w' (cnt_ten _) HOk.out.pos rfl (by have := cnt_ten (fun _ => false); simpa using this) h)
    have HB1 := Lib.hid hB1
    have hsz1 := block_lt_of_cell hc1
    clear hb1 hB1
    go_wp2_with fail
    refine (HO.out _ ⟨?b0, ?sz, ?cv, ?ten, ?out⟩).mono ?_
    case b0 => exact (((Below.refl _ _).alloc (Nat.le_refl _) _).alloc (by simp only [World.size_alloc]; omega) _).alloc (by simp only [World.size_alloc]; omega) _
    case sz => simp only [World.size_alloc]; omega
    case cv => simp [go_sem]
    case ten =>
      unfold Ten
      rw [heap_past _ _ _ (by simp only [World.size_alloc]; omega), heap_past _ _ _ (by simp only [World.size_alloc]; omega)]
      exact heap_at _ _ _ rfl
    case out =>
      refine ⟨_, 32, ?_, World.ownsRow_nil _ _ _ _⟩
      rw [heap_past _ _ _ (by simp only [World.size_alloc]; omega)]
      exact heap_at _ _ _ (by simp only [World.size_alloc])
    rintro e w2 ⟨rfl, hO⟩
    obtain ⟨x, T, hx, ho⟩ := hO.out
    rw [HXS.out] at ho
    obtain ⟨_, h | ⟨gb, cap', cur, rfl, hb, hgc, hnc, hm, hcs, ht⟩⟩ := ho
    · omega
    have hcpo := cell_of_row w2 (w1.heap.size + 1) 0 _ _ _ hx
    have hcpo : w2.cell? ⟨w1.heap.size + 1, 0, none⟩ = some (.slice (some ⟨gb, 0, none⟩) xs.length cap') := hcpo
    have HRev := Lib.hid (rev_any gb cap' _ cur xs w2 hgc (revTo_of ht) (by omega))
    have HB2 := Lib.hid (HB1.out.trans (hO.b0.mono HB1.out.size))
    clear hO hx hgc hnc hm hcs ht
    go_wp2_with fail
    refine HRev.out.mono ?_; rintro e w3 ⟨rfl, hto, cur', hx3, hcur⟩
    have hcpo3 : w3.cell? ⟨w1.heap.size + 1, 0, none⟩ = some (.slice (some ⟨gb, 0, none⟩) xs.length cap') := by rw [hto.cell (by omega)]; exact hcpo
    have HTo := Lib.hid hto; have HX3 := Lib.hid hx3; have HCur := Lib.hid hcur
    clear hto hx3 hcur hcpo
    go_wp2_with fail
    go_ret2
    refine ⟨.slice (some ⟨gb, 0, none⟩) xs.length cap', rfl, ⟨some ⟨gb, 0, none⟩, cap', by rw [List.length_reverse], fun m hm => ?_⟩, HB2.out.trans (HTo.out.below (by omega))⟩
    refine ⟨gb, 0, rfl, ?_⟩
    rw [Nat.zero_add, cell_of_row w3 gb m _ _ _ HX3.out]
    exact HCur.out m (by simpa using hm)
  · have hn : orderR g0 = [] := by unfold orderR; rw [if_neg hv]
    rw [hn]
    generalize validE g0 = V at *
    have hvb : (V != 0) = true := by simpa using hv
    clear hv hn hc0
    go_enter Try.func18, Try.ntmps18
    go_wp2_with fail
    refine HV.out.mono ?_; rintro e w1 ⟨rfl, hb1⟩
    go_wp2_with fail
    go_ret2
    exact ⟨_, rfl, NatSl.nil _, hbl.trans (hb1.mono hbl.size)⟩
end Go.Proofs.Ytmljmmnofhhheaa
