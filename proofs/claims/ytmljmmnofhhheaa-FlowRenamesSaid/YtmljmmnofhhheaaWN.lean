/- Walks of the visit in Order. -/
import Derived.Test.YtmljmmnofhhheaaWB
import Derived.Test.YtmljmmnofhhheaaM4
namespace Go.Proofs.Ytmljmmnofhhheaa
open Go.RowKit

theorem snoc_len (xs : List Nat) (x : Nat) : xs.length + 1 = (xs ++ [x]).length := by simp
/-- What lies in memory as Order visits: the seen nodes, the left ones, the closure. -/
structure OSt (W0 : World) (pg : Nat) (w : World) (s : VSt) : Prop where
  b0 : Below W0.heap.size W0 w
  sz : W0.heap.size + 3 ≤ w.heap.size
  cv : w.cell? ⟨W0.heap.size + 2, 0, none⟩ = some (.func (.func 54) #[] #[.pointer (some ⟨W0.heap.size, 0, none⟩), .pointer (some ⟨pg, 0, none⟩), .pointer (some ⟨W0.heap.size + 2, 0, none⟩), .pointer (some ⟨W0.heap.size + 1, 0, none⟩)])
  ten : Ten w W0.heap.size s.1
  out : ∃ v T, w.heap[W0.heap.size + 1]? = some (.cells #[v] T (0, 0)) ∧ w.ownsRow (W0.heap.size + 3) 3 1 v s.2.length (encN s.2)
theorem OSt.mark {W0 w : World} {pg : Nat} {s : VSt} (h : OSt W0 pg w s) {v : Nat} (hv : v < 10) : OSt W0 pg (w.setCell ⟨W0.heap.size, v, none⟩ (.bool true)) (mark s.1 v, s.2) := by
  obtain ⟨x, T, hx, ho⟩ := h.out
  refine ⟨h.b0.setCell (Nat.le_refl _) _, by simpa [World.setCell] using h.sz, ?_, h.ten.mark hv, x, T, ?_, ownsRow_setCell_below ho (a := ⟨W0.heap.size, v, none⟩) (by show W0.heap.size < W0.heap.size + 3; omega) _⟩
  · rw [(Touch.set w W0.heap.size v (.bool true)).cell (by omega)]; exact h.cv
  · rw [(Touch.set w W0.heap.size v (.bool true)).block _ (by omega)]; exact hx

theorem OSt.left {W0 w w' : World} {pg : Nat} {t : VSt} {v : Nat} {x y : Value} {T : TypeId} {row : Option Nat} (h : OSt W0 pg w t) (hx : w.heap[W0.heap.size + 1]? = some (.cells #[x] T (0, 0))) (o : Obj)
    (hg : (w.alloc o).grownBy w' row) (hr : ∀ k, row = some k → W0.heap.size + 3 ≤ k) (ho : w'.ownsRow (W0.heap.size + 3) 3 1 y (t.2 ++ [v]).length (encN (t.2 ++ [v]))) :
    OSt W0 pg (w'.setCell ⟨W0.heap.size + 1, 0, none⟩ y) (t.1, t.2 ++ [v]) := by
  have hsz := h.sz
  have hsa : (w.alloc o).heap.size = w.heap.size + 1 := by simp
  have hblk : ∀ j, j < W0.heap.size + 3 → w'.heap[j]? = w.heap[j]? := fun j hj =>
    (hg.block j (by omega) (fun e => by have := hr j e.symm; omega)).trans (heap_past _ _ _ (by omega))
  have hx' : w'.heap[W0.heap.size + 1]? = some (.cells #[x] T (0, 0)) := (hblk _ (by omega)).trans hx
  have hb : Below W0.heap.size W0 w' := (h.b0.alloc (by omega) o).grown hg (by omega) (fun k hk => by have := hr k hk; omega)
  refine ⟨hb.setCell (by show W0.heap.size ≤ W0.heap.size + 1; omega) _, ?_, ?_, ?_, y, T, ?_, ownsRow_setCell_below ho (a := ⟨W0.heap.size + 1, 0, none⟩) (by show W0.heap.size + 1 < W0.heap.size + 3; omega) _⟩
  · have h1 := hg.size
    have h2 : (w'.setCell ⟨W0.heap.size + 1, 0, none⟩ y).heap.size = w'.heap.size := by simp [World.setCell]
    rw [h2]; omega
  · rw [(Touch.set w' (W0.heap.size + 1) 0 y).cell (by omega), World.cell?_of_block (w := w) (hblk (W0.heap.size + 2) (by omega))]
    exact h.cv
  · unfold Ten
    rw [(Touch.set w' (W0.heap.size + 1) 0 y).block _ (by omega), hblk _ (by omega)]
    exact h.ten
  · rw [heap_setCell_same w' (W0.heap.size + 1) 0 _ _ _ hx']
    rfl

set_option maxRecDepth 100000 in
set_option maxHeartbeats 2000000 in
theorem order1_any (W0 : World) (pg : Nat) (a : Option Addr) (cap : Nat) (g : Gr) (hpg : W0.cell? ⟨pg, 0, none⟩ = some (.slice a g.length cap)) (hg : GraphIn W0 a g) (ok : OkG g) (f : Nat) :
    ∀ (v : Nat) (s : VSt) (w : World), cnt s.1 ≤ f → v < g.length → s.1 v = false → s.2.length + cnt s.1 ≤ 10 → OSt W0 pg w s →
    Calls Try.prog 54 #[.int .i64 v, .pointer (some ⟨W0.heap.size, 0, none⟩), .pointer (some ⟨pg, 0, none⟩), .pointer (some ⟨W0.heap.size + 2, 0, none⟩), .pointer (some ⟨W0.heap.size + 1, 0, none⟩)] w
      fun e w' => e = .returned (.tuple #[]) ∧ OSt W0 pg w' (ovis g f v s) := by
  have hn := ok.ten
  have hpl := block_lt_of_cell hpg
  induction f with
  | zero =>
    intro v s w hc hv hs
    have := cnt_pos (by omega) hs
    omega
  | succ f ih =>
    intro v s w hc hv hs hlen C
    have hv10 : v < 10 := by omega
    have hn' : (g.length : Int) ≤ 10 := by omega
    have hcm := cnt_mark hv10 hs
    have c2 := C.ten.cell hv10
    have f1 := C.ten.free v
    rw [hs] at c2
    have C1 := C.mark hv10
    have cg1 := keep hpg C1.b0
    obtain ⟨gb, goff, a', cap', rfl, hcell0, hrow0⟩ := hg v hv
    have hcg1 := keep hcell0 C1.b0
    have HC1 := Lib.hid C1
    have HL1 := Lib.hid (fun k hk => (less_ovis ok f v s hv hs).2 k hk)
    have IH := Lib.hid ih; have HRow := Lib.hid hrow0; have HPg := Lib.hid hpg
    have hdg := ok.deg v
    have HFit := Lib.hid ok.fits
    have HOs := Lib.hid (ovis_succ g f v s)
    have H0 := Lib.hid (olist_zero g f v s)
    have HNx : Hid (∀ k, k < (succ g v).length → olist g f v (k + 1) s = ostep g f (olist g f v k s) ((succ g v).getD k 0)) := Lib.hid fun k hk => olist_next hk
    have HSz := Lib.hid C.sz
    clear ih hcell0 hrow0 C1 C hg hpg hs
    obtain ⟨i0, hi, hz0, hz1, hz2⟩ := info_parts Try.infoInt
    go_enter Try.func54, Try.ntmps54
    go_wp2_with fail
    go_loopw [15] (fun i wr => ∃ k : Nat, k ≤ (succ g v).length ∧ i = .int .i64 k ∧ OSt W0 pg wr (olist g f v k s)) (fun i _ => (succ g v).length - (intOf i).toNat)
    case atStart => exact ⟨0, Nat.zero_le _, rfl, by rw [H0.out]; exact HC1.out⟩
    case round =>
      obtain ⟨k, hk, rfl, hC⟩ := hrel
      have hls := HL1.out k hk
      have hl2 : (olist g f v k s).2.length + cnt (olist g f v k s).1 ≤ s.2.length + cnt (Proofs.Ytmljmmnofhhheaa.mark s.1 v) := hls.len
      have hcn : cnt (olist g f v k s).1 ≤ cnt (Proofs.Ytmljmmnofhhheaa.mark s.1 v) := cnt_le hls.sub
      clear hls
      by_cases hlt : k < (succ g v).length
      · obtain ⟨b2, off2, rfl, hx2⟩ := HRow.out.below hC.b0 k hlt
        have hxl := HFit.out v _ (getD_mem hlt)
        have hnx := HNx.out k hlt
        have hcv := hC.cv
        have hIH := IH.out ((succ g v).getD k 0) (olist g f v k s) wr
        generalize olist g f v k s = t at *
        have HIH := Lib.hid hIH; have HNx1 := Lib.hid hnx
        clear hIH hnx
        generalize (succ g v).getD k 0 = x at *
        have hcx := hC.ten.cell (k := x) (by omega)
        cases hsx : t.1 x
        · rw [hsx] at hcx
          have HCall := Lib.hid (HIH.out (by omega) hxl hsx (by omega) hC)
          have HE : Hid (ostep g f t x = ovis g f x t) := Lib.hid (by unfold ostep; rw [hsx]; rfl)
          clear hC hsx
          go_wp2_with (first | (go_at_call 54; refine HCall.out.mono ?_; rintro e w2 ⟨rfl, hC2⟩))
          go_roundw
          case rel => exact ⟨k + 1, by omega, by go_num, by rw [HNx1.out, HE.out]; exact hC2⟩
          case measure => simp [intOf]; omega
        · rw [hsx] at hcx
          have HE : Hid (ostep g f t x = t) := Lib.hid (by unfold ostep; rw [hsx]; rfl)
          have HC2 := Lib.hid hC
          clear hC hsx
          go_wp2_with fail
          go_roundw
          case rel => exact ⟨k + 1, by omega, by go_num, by rw [HNx1.out, HE.out]; exact HC2.out⟩
          case measure => simp [intOf]; omega
      · obtain rfl : k = (succ g v).length := by omega
        obtain ⟨x, T, hx, ho⟩ := hC.out
        generalize olist g f v (succ g v).length s = t at *
        have hcx := cell_of_row wr (W0.heap.size + 1) 0 _ _ _ hx
        have hfx := frozen_of_row wr (W0.heap.size + 1) 0 _ _ hx
        have hcx : wr.cell? ⟨W0.heap.size + 1, 0, none⟩ = some x := hcx
        have hlen2 : t.2.length ≤ 10 := by omega
        have HO := Lib.hid ho; have HCC := Lib.hid hC; have HX := Lib.hid hx
        have hszr := hC.sz
        clear ho hC hx
        have HBt : Hid (Below W0.heap.size W0 wr) := Lib.hid HCC.out.b0
        go_wp2_with (at_builtin; refine wpList_append_own _ rfl _ _ 32 rfl (W0.heap.size + 3) 3 i0 (.int .i64 0) 1 8 Try.underlying32 hi hz0 hz1 hz2 rfl (by decide) _ _ _ rfl (HO.out.alloc _) ⟨wr.heap.size, 0, none⟩ 1 1 [.int .i64 v] rfl rfl (cell_one_new _ _ _) one_int (by unfold maxLen; omega) (by omega) (by simp; omega) ?_; intro v' w4 hown' hgrow _; rw [← encN_snoc, snoc_len _ v] at hown'; obtain ⟨va, vc, rfl⟩ := owns_form hown'; have hx4 := (hgrow.block (W0.heap.size + 1) (by simp; omega) (fun e => absurd (HO.out.lt _ e.symm).1 (by omega))).trans ((heap_past _ _ _ (by omega)).trans HX.out); have hc4 := cell_of_row w4 (W0.heap.size + 1) 0 _ _ _ hx4; have hf4 := frozen_of_row w4 (W0.heap.size + 1) 0 _ _ hx4; have hw4 := lt_of_block hx4; have HX4 := Lib.hid hx4; clear hx4; have HO4 := Lib.hid hown'; have HG4 := Lib.hid hgrow; clear hown' hgrow; simp only [List.getElem?_toArray, List.getElem?_cons_zero] at hc4)
        go_end0
        refine ⟨rfl, ?_⟩
        rw [HOs.out]
        exact HCC.out.left HX.out _ HG4.out (fun k hk => (HO.out.lt k hk).1) (by rw [snoc_len _ v]; exact HO4.out)
end Go.Proofs.Ytmljmmnofhhheaa
