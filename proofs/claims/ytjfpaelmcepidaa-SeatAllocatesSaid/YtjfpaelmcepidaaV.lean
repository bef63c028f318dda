/- The walk of move. -/
import Derived.Test.YtjfpaelmcepidaaF
namespace Go.Proofs.Ytjfpaelmcepidaa
open Go.RowKit Go.Maps

theorem keys_le31 (f : PF) : (keysL f).length ≤ 31 := by
  unfold keysL
  exact Nat.le_trans (List.length_filter_le _ _) (by simp)
theorem MapAt.of {w : World} {b n : Nat} {D : DataW Unit} {f : PF} (ho : OwnM w b n D) (hm : MF D f) : MapAt w b f := by
  have hs := hm.size
  obtain ⟨es, clock, h1, h2, _, rfl⟩ := ho
  have hk := keys_le31 f
  refine ⟨(keysL f).length, _, by omega, ⟨es, clock, h1, h2, ?_, rfl⟩, hm⟩
  rw [← hs]
  simp only [Maps.size]
  rw [length_sorted]
  simp
theorem MapAt.setCell {w : World} {b : Nat} {f : PF} (h : MapAt w b f) {a : Addr} (ha : b ≠ a.block) (u : Value) : MapAt (w.setCell a u) b f := by
  obtain ⟨n, D, hn, ho, hm⟩ := h
  exact ⟨n, D, hn, World.ownsMap.setCell ho ha u, hm⟩
theorem OSt.append {w w1 : World} {q b1 b2 base : Nat} {s : RSt} {dv v' : Value} {t x : Nat} {o : Obj} (h : OSt w q b1 b2 base s dv) (hg : (w.alloc o).grownBy w1 dv.ownBlock)
    (ho : w1.ownsRow base 52 2 v' (s.dn.length + 1) (encP s.dn ++ [.int .i64 (t : Nat), .int .i64 (x : Nat)])) :
    OSt (w1.setCell ⟨q, 2, none⟩ v') q b1 b2 base ⟨s.fr, s.cp, s.dn ++ [(t, x)]⟩ v' ∧ ∀ B, B ≤ q → Below B w (w1.setCell ⟨q, 2, none⟩ v') := by
  have hbase : ∀ k, dv.ownBlock = some k → base ≤ k := fun k hk => (h.dn.lt k hk).1
  have hq := lt_of_block h.obj
  have hblk : ∀ k, k < base → k < w.heap.size → w1.heap[k]? = w.heap[k]? := fun k hk hkw => by
    rw [hg.block k (by simp; omega) (fun e => by have := hbase k e.symm; omega), heap_past _ _ _ hkw]
  have hobj : w1.heap[q]? = some (.cells #[.map (some b1), .map (some b2), dv] 127 (0, 0)) := by rw [hblk q h.q0 hq]; exact h.obj
  have hne : ∀ b, b < base → some b ≠ dv.ownBlock := fun b hb e => by have := hbase b e.symm; omega
  have hb1q : b1 ≠ q := fun e => by
    obtain ⟨n, D, _, ⟨es, clock, h1, _⟩, _⟩ := h.fr
    rw [e, h.obj] at h1; cases h1
  have hb2q : b2 ≠ q := fun e => by
    obtain ⟨n, D, _, ⟨es, clock, h1, _⟩, _⟩ := h.cp
    rw [e, h.obj] at h1; cases h1
  refine ⟨⟨?_, ?_, ?_, ?_, h.q0, h.b10, h.b20, h.ne, ?_⟩, fun B hB => ?_⟩
  · rw [heap_setCell_same w1 q 2 _ _ _ hobj]; rfl
  · exact ((h.fr.kept (World.grownBy_alloc w o none) (by simp)).kept hg (hne _ h.b10)).setCell hb1q _
  · exact ((h.cp.kept (World.grownBy_alloc w o none) (by simp)).kept hg (hne _ h.b20)).setCell hb2q _
  · rw [encP_snoc, List.length_append]
    exact ownsRow_setCell_below ho (a := ⟨q, 2, none⟩) h.q0 _
  · have := hg.size
    have := h.le
    simp only [World.size_alloc] at *
    simp [World.setCell]
    omega
  · refine ⟨hg.os, hg.tape, hg.output, ?_, fun k hk => ?_⟩
    · have := hg.size
      simp [World.setCell] at *
      omega
    · rw [Below.heap_setCell _ _ _ _ (show k ≠ q by omega)]
      exact hblk k (by have := h.q0; omega) (by omega)
/-- The cell of the row so far, behind an append. -/
theorem OSt.cell2 {w w1 : World} {q b1 b2 base : Nat} {s : RSt} {dv : Value} {o : Obj} (h : OSt w q b1 b2 base s dv) (hg : (w.alloc o).grownBy w1 dv.ownBlock) : w1.cell? ⟨q, 2, none⟩ = some dv ∧ w1.frozen? ⟨q, 2, none⟩ = false := by
  have hq := lt_of_block h.obj
  have hobj : w1.heap[q]? = some (.cells #[.map (some b1), .map (some b2), dv] 127 (0, 0)) := by
    rw [hg.block q (by simp; omega) (fun e => by have := (h.dn.lt q e.symm).1; have := h.q0; omega), heap_past _ _ _ hq]; exact h.obj
  refine ⟨?_, frozen_of_row w1 q 2 _ _ hobj⟩
  rw [cell_of_row w1 q 2 _ _ _ hobj]; rfl
theorem encP_len (ps : Pairs) : (encP ps).length = ps.length * 2 := by
  induction ps with
  | nil => rfl
  | cons p ps ih =>
    have e : encP (p :: ps) = .int .i64 (p.1 : Nat) :: .int .i64 (p.2 : Nat) :: encP ps := by simp [encP]
    rw [e]; simp [ih]; omega

set_option maxRecDepth 100000 in
set_option maxHeartbeats 2000000 in
theorem move_any (q b1 b2 base : Nat) (s : RSt) (dv : Value) (t x : Nat) (w : World) (h : OSt w q b1 b2 base s dv) (hx : x < 1000) (hd : s.dn.length ≤ 1000) :
    Calls Try.prog 83 #[.pointer (some ⟨q, 0, none⟩), .int .i64 (t : Nat), .int .i64 (x : Nat)] w fun e w' => e = .returned (.tuple #[]) ∧ (∃ dv', OSt w' q b1 b2 base ⟨s.fr, s.cp, s.dn ++ [(t, (s.cp x).getD x)]⟩ dv') ∧ ∀ B, B ≤ q → Below B w w' := by
  obtain ⟨n2, D2, hn2, ho2, hm2⟩ := h.cp
  have hc1 := h.c1; have hc2 := h.c2
  have HH := Lib.hid h; have HO2 := Lib.hid ho2
  have hhas := has_isSome hm2 x
  obtain ⟨i0, hi, hz0, hz1, hz2⟩ := info_parts Try.infoMove
  obtain ⟨da, dc, rfl⟩ := rowAt_form h.dn
  have hle := h.le
  have HHas := Lib.hid hhas
  have HM2 := Lib.hid hm2
  cases hcp : s.cp x with
  | none =>
    rw [hcp] at HHas
    clear hhas ho2 hm2 h
    go_enter Try.func83, Try.ntmps83
    go_wp2_with (first
      | (at_lookup; refine wpList_lookup_own_ok_int _ rfl _ _ 56 rfl 3 3 .i64 intLaw Try.underlying56 Try.underlying3 (zeroInt _) b2 n2 _ rfl HO2.out _ _ rfl (key_nat (by omega)) ?_; intro c hat hwc; rw [HHas.out])
      | (at_builtin; refine wpList_append_own _ rfl _ _ 53 rfl base 52 i0 (.agg #[.int .i64 0, .int .i64 0]) 2 16 Try.underlying53 hi hz0 hz1 hz2 rfl (by decide) _ _ _ rfl (HH.out.dn.alloc _) ⟨w.heap.size, 0, none⟩ 1 1 [.int .i64 t, .int .i64 x] rfl rfl (pair_new _ _ _ _) two_one (by unfold maxLen; omega) (by omega) (by simp; omega) ?_; intro v' w1 hown' hgrow _; obtain ⟨va, vc, rfl⟩ := rowAt_form hown'; have hcf := HH.out.cell2 hgrow; have hc3 := hcf.1; have hf3 := hcf.2; have HA := Lib.hid (HH.out.append (t := t) (x := x) hgrow hown'); clear hown' hgrow hcf))

    go_end0
    exact ⟨rfl, ⟨_, HA.out.1⟩, HA.out.2⟩
  | some y =>
    rw [hcp] at HHas
    have HY := Lib.hid (hm2.val x y hcp (.lit (.int .i64 0)))
    clear hhas ho2 hm2 h
    go_enter Try.func83, Try.ntmps83
    go_wp2_with (first
      | (at_lookup; refine wpList_lookup_own_ok_int _ rfl _ _ 56 rfl 3 3 .i64 intLaw Try.underlying56 Try.underlying3 (zeroInt _) b2 n2 _ rfl HO2.out _ _ rfl (key_nat (by omega)) ?_; intro c hat hwc; rw [HHas.out]; obtain rfl : c = (y : Int) := (by rw [HY.out] at hat; simpa using hat.symm); clear hat hwc)
      | (at_builtin; refine wpList_append_own _ rfl _ _ 53 rfl base 52 i0 (.agg #[.int .i64 0, .int .i64 0]) 2 16 Try.underlying53 hi hz0 hz1 hz2 rfl (by decide) _ _ _ rfl (HH.out.dn.alloc _) ⟨w.heap.size, 0, none⟩ 1 1 [.int .i64 t, .int .i64 y] rfl rfl (pair_new _ _ _ _) two_one (by unfold maxLen; omega) (by omega) (by simp; omega) ?_; intro v' w1 hown' hgrow _; obtain ⟨va, vc, rfl⟩ := rowAt_form hown'; have hcf := HH.out.cell2 hgrow; have hc3 := hcf.1; have hf3 := hcf.2; have HA := Lib.hid (HH.out.append (t := t) (x := y) hgrow hown'); clear hown' hgrow hcf))

    go_end0
    exact ⟨rfl, ⟨_, HA.out.1⟩, HA.out.2⟩
end Go.Proofs.Ytjfpaelmcepidaa
