/- Packed of several texts. -/
import Derived.Test.YtbbbflnnbbaamaaGreatDoorH42
namespace Go.Proofs.YtbbbflnnbbaamaaGreatDoor.PK
open Go.RowKit

structure Sv3 (q v h : Nat) (w w' : World) : Prop where
 os : w'.os = w.os
 tape : w'.tape = w.tape
 output : w'.output = w.output
 size : w.heap.size ≤ w'.heap.size
 block : ∀ k, k < w.heap.size → k ≠ q → k ≠ v → k ≠ h → w'.heap[k]? = w.heap[k]?
theorem Sv3.refl (q v h : Nat) (w : World) : Sv3 q v h w w := ⟨rfl, rfl, rfl, Nat.le_refl _, fun _ _ _ _ _ => rfl⟩
theorem Sv3.trans {q v h : Nat} {a b c : World} (x : Sv3 q v h a b) (y : Sv3 q v h b c) : Sv3 q v h a c :=
 ⟨y.os.trans x.os, y.tape.trans x.tape, y.output.trans x.output, Nat.le_trans x.size y.size, fun k hk h1 h2 h3 => (y.block k (Nat.lt_of_lt_of_le hk x.size) h1 h2 h3).trans (x.block k hk h1 h2 h3)⟩
theorem Sv3.of_below {q v h : Nat} {w w' : World} (x : Below w.heap.size w w') : Sv3 q v h w w' := ⟨x.os, x.tape, x.output, x.size, fun k hk _ _ _ => x.block k hk⟩
theorem Sv3.of_save {q v h p : Nat} {w w' : World} (x : Save p w w') (hp : p = q ∨ p = v ∨ p = h) : Sv3 q v h w w' := ⟨x.os, x.tape, x.output, x.size, fun k hk h1 h2 h3 => x.block k hk (by rcases hp with e | e | e <;> (rw [e]; assumption))⟩
theorem Sv3.below {q v h B : Nat} {w w' : World} (x : Sv3 q v h w w') (hq : B ≤ q) (hv : B ≤ v) (hh : B ≤ h) (hB : B ≤ w.heap.size) : Below B w w' := ⟨x.os, x.tape, x.output, x.size, fun k hk => x.block k (by omega) (by omega) (by omega) (by omega)⟩
structure WkAt (w : World) (base q v h : Nat) (F : Fun) (A : FunA) (bb : Value) (L : List Int) (s : Int) : Prop where
 row : ∃ (o0 : Int) (o1 : Bool) (o2 o3 : Int) (o4 : Option Addr × Nat × Nat), WkRow w q F A (.int .i64 o0) (.bool o1) (.int .i64 o2) (.int .u32 o3) (.slice o4.1 o4.2.1 o4.2.2) bb s v h L.length
 vals : w.ownsRow base 47 3 (.slice (some ⟨v, 0, none⟩) L.length L.length) L.length (encV L)
 had : ∃ hs, w.ownsRow base 4 1 (.slice (some ⟨h, 0, none⟩) L.length L.length) L.length hs
theorem owns_heap {w : World} {B g n c s : Nat} {e : TypeId} {xs : List Value} (h : w.ownsRow B e s (.slice (some ⟨g, 0, none⟩) n c) n xs) : B ≤ g ∧ g < w.heap.size ∧ ∃ cs, w.heap[g]? = some (.cells cs e (0, 0)) := by
 obtain ⟨_, ⟨e0, _⟩ | ⟨g', cap, cur, e0, hb, hg, _⟩⟩ := h
 ·cases e0
 ·simp only [Value.slice.injEq, Option.some.injEq, Addr.mk.injEq, and_true, true_and] at e0
  obtain ⟨rfl, rfl⟩ := e0
  exact ⟨hb, lt_of_block hg, _, hg⟩
theorem ne_block {w : World} {g g' : Nat} {e e' : TypeId} {cs cs' : Array Value} (h : w.heap[g]? = some (.cells cs e (0, 0))) (h' : w.heap[g']? = some (.cells cs' e' (0, 0))) (hne : e ≠ e') : g ≠ g' := fun k => by
 rw [k, h'] at h
 simp only [Option.some.injEq, Obj.cells.injEq] at h
 exact hne h.2.1.symm
theorem WkAt.lt {w : World} {base q v h : Nat} {F : Fun} {A : FunA} {bb : Value} {L : List Int} {s : Int} (x : WkAt w base q v h F A bb L s) : q < w.heap.size ∧ v < w.heap.size ∧ h < w.heap.size ∧ q ≠ v ∧ q ≠ h ∧ v ≠ h := by
 obtain ⟨o0, o1, o2, o3, o4, hr⟩ := x.row
 obtain ⟨hs, hh⟩ := x.had
 obtain ⟨_, h1, cs, h2⟩ := owns_heap x.vals
 obtain ⟨_, h3, cs', h4⟩ := owns_heap hh
 exact ⟨lt_of_block hr, h1, h3, ne_block hr h2 (by decide), ne_block hr h4 (by decide), ne_block h2 h4 (by decide)⟩
theorem WkAt.below {w w' : World} {base q v h : Nat} {F : Fun} {A : FunA} {bb : Value} {L : List Int} {s : Int} (x : WkAt w base q v h F A bb L s) (hb : Below w.heap.size w w') : WkAt w' base q v h F A bb L s := by
 obtain ⟨o0, o1, o2, o3, o4, hr⟩ := x.row
 obtain ⟨hs, hh⟩ := x.had
 exact ⟨⟨o0, o1, o2, o3, o4, row_below hr hb⟩, owns_below x.vals hb, hs, owns_below hh hb⟩
theorem WkAt.tick {w : World} {base q v h : Nat} {F : Fun} {A : FunA} {bb : Value} {L : List Int} {s : Int} (x : WkAt w base q v h F A bb L s) : WkAt (w.setCell ⟨q, 13, none⟩ (.int .i64 (s + 1))) base q v h F A bb L (s + 1) := by
 obtain ⟨_, _, _, n1, n2, _⟩ := x.lt
 obtain ⟨o0, o1, o2, o3, o4, hr⟩ := x.row
 obtain ⟨hs, hh⟩ := x.had
 have h1 := heap_setCell_same _ q 13 _ _ (.int .i64 (s + 1)) hr
 simp only [List.setIfInBounds_toArray, List.set_cons_succ, List.set_cons_zero] at h1
 have hk := (Save.set q 13 w (.int .i64 (s + 1))).block
 refine ⟨⟨o0, o1, o2, o3, o4, h1⟩, owns_of_block x.vals fun g _ h2 h3 => hk g h2 ?_, hs, owns_of_block hh fun g _ h2 h3 => hk g h2 ?_⟩
 ·simp only [Value.ownBlock, Option.some.injEq] at h3
  omega
 ·simp only [Value.ownBlock, Option.some.injEq] at h3
  omega
theorem WkAt.setv {w : World} {base q v h : Nat} {F : Fun} {A : FunA} {bb : Value} {L : List Int} {s : Int} (x : WkAt w base q v h F A bb L s) (k : Nat) (hk : k < L.length) (y : Int) :
  WkAt (((w.setCell ⟨v, k * 3, none⟩ (.bool false)).setCell ⟨v, k * 3 + 1, none⟩ (.int .i64 0)).setCell ⟨v, k * 3 + 2, none⟩ (.int .u32 y)) base q v h F A bb (L.set k y) s ∧
  Sv3 q v h w (((w.setCell ⟨v, k * 3, none⟩ (.bool false)).setCell ⟨v, k * 3 + 1, none⟩ (.int .i64 0)).setCell ⟨v, k * 3 + 2, none⟩ (.int .u32 y)) := by
 obtain ⟨l1, l2, l3, n1, n2, n3⟩ := x.lt
 obtain ⟨o0, o1, o2, o3, o4, hr⟩ := x.row
 obtain ⟨hs, hh⟩ := x.had
 have hS := ((Save.set v (k * 3) w (.bool false)).trans (Save.set v (k * 3 + 1) _ (.int .i64 0))).trans (Save.set v (k * 3 + 2) _ (.int .u32 y))
 have ho := owns_set (owns_set (owns_set x.vals (k * 3) (.bool false)) (k * 3 + 1) (.int .i64 0)) (k * 3 + 2) (.int .u32 y)
 rw [encV_set L k y hk] at ho
 refine ⟨⟨⟨o0, o1, o2, o3, o4, ?_⟩, ?_, hs, ?_⟩, Sv3.of_save hS (.inr (.inl rfl))⟩
 ·rw [List.length_set]; exact (hS.block q l1 n1).trans hr
 ·rw [List.length_set]; exact ho
 ·rw [List.length_set]
  exact owns_of_block hh fun g _ h2 h3 => hS.block g h2 (by simp only [Value.ownBlock, Option.some.injEq] at h3; omega)
theorem WkAt.seth {w : World} {base q v h : Nat} {F : Fun} {A : FunA} {bb : Value} {L : List Int} {s : Int} (x : WkAt w base q v h F A bb L s) (k : Nat) (y : Value) :
  WkAt (w.setCell ⟨h, k, none⟩ y) base q v h F A bb L s ∧ Sv3 q v h w (w.setCell ⟨h, k, none⟩ y) := by
 obtain ⟨l1, l2, l3, n1, n2, n3⟩ := x.lt
 obtain ⟨o0, o1, o2, o3, o4, hr⟩ := x.row
 obtain ⟨hs, hh⟩ := x.had
 have hS := Save.set h k w y
 refine ⟨⟨⟨o0, o1, o2, o3, o4, (hS.block q l1 n2).trans hr⟩, owns_of_block x.vals fun g _ h2 h3 => hS.block g h2 (by simp only [Value.ownBlock, Option.some.injEq] at h3; omega), _, owns_set hh k y⟩, Sv3.of_save hS (.inr (.inr rfl))⟩
def slLen : Value → Nat
 | .slice _ n _ => n
 | _ => 0
def rdK (rd : Nat → Int) (k : Nat) : List Int := (List.range k).map rd
theorem rdK_succ (rd : Nat → Int) (k : Nat) : rdK rd (k + 1) = rdK rd k ++ [rd k] := by simp [rdK, List.range_succ]
theorem rdK_len (rd : Nat → Int) (k : Nat) : (rdK rd k).length = k := by simp [rdK]
theorem rdK_get (rd : Nat → Int) {k n : Nat} (h : k < n) : (rdK rd n).getD k 0 = rd k := by simp [rdK, List.getD_eq_getElem?_getD, h]
def wrK (L : List Int) (at0 : Nat) (rd : Nat → Int) : Nat → List Int
 | 0 => L
 | k + 1 => (wrK L at0 rd k).set (at0 + k) (rd k)
theorem wrK_len (L : List Int) (at0 : Nat) (rd : Nat → Int) : ∀ k, (wrK L at0 rd k).length = L.length
 | 0 => rfl
 | k + 1 => by show (List.set _ _ _).length = _; rw [List.length_set, wrK_len L at0 rd k]
structure PhiAt (L : List Int) (l : List Ins) (frm : Int) (np : Nat) (rd : Nat → Int) : Prop where
 le : np ≤ l.length
 op : ∀ i, i < np → (atI l i).op = 28
 fin : np < l.length → (atI l np).op ≠ 28
 red : ∀ i, i < np → ∃ j a, j < (atI l i).tt.length ∧ (atI l i).tt.getD j 0 = frm ∧ (∀ j', j' < j → (atI l i).tt.getD j' 0 ≠ frm) ∧ j < (atI l i).ar.length ∧ (atI l i).ar.getD j 0 = ((a : Nat) : Int) ∧ a < L.length ∧ rd i = L.getD a 0
set_option maxRecDepth 100000 in
set_option maxHeartbeats 4000000 in
theorem wPhis_any (F : Fun) (A : FunA) (base q v h : Nat) (bb : Value) (L : List Int) (s : Int) (bk np : Nat) (frm : Int) (rd : Nat → Int) (w : World) (hin : FunIn w F A) (hs : FunSm F) (hN : L.length = (kdsI F).length) (hb : bk < F.bs.length) (hp : PhiAt L (atBk F.bs bk) frm np rd) (hs0 : 0 ≤ s) (hs1 : s + np < 400) (hw : WkAt w base q v h F A bb L s) :
  Calls Tryz.prog 84 #[.pointer (some ⟨q, 0, none⟩), .int .i64 (bk : Nat), .int .i64 frm] w fun e w' => e = .returned (.tuple #[.int .i64 (np : Nat), .bool true]) ∧ WkAt w' base q v h F A bb (wrK L (F.ps.length + sumI F.bs bk) rd np) (s + np) ∧ Sv3 q v h w w' := by
 obtain ⟨l1, l2, l3, n1, n2, n3⟩ := hw.lt
 obtain ⟨o0, o1, o2, o3, o4, hr⟩ := hw.row
 have g0 := cell_of_row _ _ 0 _ _ _ hr; have g1 := cell_of_row _ _ 1 _ _ _ hr; have g2 := cell_of_row _ _ 2 _ _ _ hr; have g3 := cell_of_row _ _ 3 _ _ _ hr; have g14 := cell_of_row _ _ 14 _ _ _ hr
 have HNu := Lib.hid (fun u (hu : Below w.heap.size w u) => Number_any F A bk u (hin.below hu) hs (Nat.le_of_lt hb))
 have HW := Lib.hid hw
 obtain ⟨va, vc, he, hvi⟩ := vals_of_owns hw.vals
 simp only [Value.slice.injEq] at he
 obtain ⟨rfl, he1, he2⟩ := he
 clear he1 he2
 have HV : Hid (∀ u, Below w.heap.size w u → ∀ a, a < L.length → u.cell? ⟨v, a * 3, none⟩ = some (.bool false) ∧ u.cell? ⟨v, a * 3 + 1, none⟩ = some (.int .i64 0) ∧ u.cell? ⟨v, a * 3 + 2, none⟩ = some (.int .u32 (L.getD a 0))) := Lib.hid fun u hu a ha => by
  obtain ⟨b', o', e, h1, h2, h3⟩ := hvi.below hu a ha
  simp only [Option.some.injEq, Addr.mk.injEq, and_true] at e
  obtain ⟨rfl, rfl⟩ := e
  rw [Nat.zero_add] at h1 h2 h3
  exact ⟨h1, h2, h3⟩
 clear hvi
 have hm := hs.ins bk hb
 have HArs := Lib.hid (fun i (hi : i < (atBk F.bs bk).length) => hs.ars bk i hb hi)
 have hsb := hs.bs
 have hsu := hs.sum bk (Nat.le_of_lt hb)
 have hsp := hs.ps
 have hmono := sumI_mono (ls := F.bs) hb
 rw [kdsI_len] at hN
 obtain ⟨fb, fo, la, lc, hba, hlc, hli⟩ := hin.bs bk hb
 have HLi := Lib.hid hli; have HP := Lib.hid hp
 have hle := hp.le
 have hNb : L.length ≤ 1000000 := by
  rw [hN]
  have := hs.sum F.bs.length (Nat.le_refl _)
  omega
 obtain ⟨pa, pc, sa, sc, ba, bc⟩ := A
 obtain rfl : ba = some ⟨fb, fo, none⟩ := hba
 have hbi : (bk : Int) < (F.bs.length : Int) := by omega
 have G0 := Lib.hid g0; have G1 := Lib.hid g1; have G2 := Lib.hid g2; have G3 := Lib.hid g3; have G14 := Lib.hid g14; have HLc := Lib.hid hlc
 have HRs := Lib.hid (rdK_succ rd); have HRl := Lib.hid (rdK_len rd); have HRg := Lib.hid (fun k (hk : k < np) => rdK_get rd (n := np) hk)
 have hat : F.ps.length + sumI F.bs bk + (atBk F.bs bk).length ≤ L.length := by omega
 have hat2 : F.ps.length + sumI F.bs bk < 1000000 := by omega
 simp only [funV, funC] at HNu
 clear hin hs hr hw hp hli hmono hN
 generalize hll : atBk F.bs bk = l at *
 have HLl := Lib.hid hll; clear hll
 generalize hatn : F.ps.length + sumI F.bs bk = atn at *
 have HAtn := Lib.hid hatn; clear hatn
 generalize hnn : L.length = N at *
 have HNn := Lib.hid hnn; clear hnn
 go_enter Tryz.func84, Tryz.ntmps84
 go_upto_region 1 with fail
 go_wp2_with fail
 refine (HNu.out w (Below.refl _ _)).mono ?_; rintro e w2 ⟨rfl, hb2⟩
 have HB2 := Lib.hid hb2
 clear g0 g1 g2 g3 g14 hlc
 have g0 := keep G0.out hb2; have g1 := keep G1.out hb2; have g2 := keep G2.out hb2; have g3 := keep G3.out hb2; have g14 := keep G14.out hb2; have hlc := keep HLc.out hb2
 have HZ2 := Lib.hid hb2.size
 clear hb2
 go_wp2_with fail
 clear g0 g1 g2 g3 g14 hlc
 go_loopw [10] (fun rv wr => ∃ k : Nat, k ≤ np ∧ wr.ownsRow w.heap.size 47 3 rv (rdK rd k).length (encV (rdK rd k)) ∧ Below w.heap.size w wr) (fun rv _ => np - slLen rv)
 case atStart => exact ⟨0, Nat.zero_le _, owns_nil _ _ _ _, HB2.out⟩
 case round =>
  obtain ⟨k, hk, ho, hbr⟩ := hrel
  have HO := Lib.hid ho; have HBr := Lib.hid hbr
  obtain ⟨ra, rc, rfl⟩ := owns_shape ho
  have hrl := HRl.out k
  rw [hrl]
  clear ho
  by_cases hlt : k < np
  ·have hkl : k < l.length := by omega
   have hki : (k : Int) < (l.length : Int) := by omega
   obtain ⟨j, a, j1, j2, j3, j4, j5, j6, j7⟩ := HP.out.red k hlt
   rw [HNn.out] at j6
   obtain ⟨ja, jt⟩ := HArs.out k hkl
   have hop := HP.out.op k hlt
   obtain ⟨ib, io, aa, ta, ca, ct, hla, hx0⟩ := HLi.out k hkl
   subst hla
   obtain ⟨ab, ao, rfl, hca⟩ := hx0.ia j j4
   obtain ⟨tb, to', rfl, _⟩ := hx0.it j j1
   rw [j5] at hca
   have HCa := Lib.hid hca
   have hxx := hx0.below hbr
   obtain ⟨x0, x1, x2, x3, x4, x5, _, xt⟩ := hxx
   have HXt : Hid (∀ u, Below wr.heap.size wr u → ∀ i, i < (atI l k).tt.length → u.cell? ⟨tb, to' + i, none⟩ = some (.int .i64 ((atI l k).tt.getD i 0))) := Lib.hid fun u hu i hi => by
    obtain ⟨b', o', e, hc⟩ := xt i hi
    simp only [Option.some.injEq, Addr.mk.injEq, and_true] at e
    obtain ⟨rfl, rfl⟩ := e
    exact keep hc hu
   have HVa := Lib.hid (fun u hu => HV.out u hu a j6)
   rw [← j7] at HVa
   clear j7
   have hrs := HRs.out k
   have HRs1 := Lib.hid hrs
   clear xt hx0 hca hrs
   generalize hxe : atI l k = x at *
   clear hxe
   obtain ⟨op, wd, fl, ar, im, tt⟩ := x
   simp only at ja jt j1 j2 j3 j4 j5 hop x0 x1 x2 x3 x4 x5 HXt
   subst hop
   have hal : Below wr.heap.size wr (wr.alloc (.cells #[.int .i64 28, .int .i64 wd, .int .i64 fl, .slice (some ⟨ab, ao, none⟩) ar.length ca, .int .u32 im, .slice (some ⟨tb, to', none⟩) tt.length ct] 63)) := (Below.refl _ _).alloc (Nat.le_refl _) _
   have hr3 : (wr.alloc (.cells #[.int .i64 28, .int .i64 wd, .int .i64 fl, .slice (some ⟨ab, ao, none⟩) ar.length ca, .int .u32 im, .slice (some ⟨tb, to', none⟩) tt.length ct] 63)).heap[wr.heap.size]? = some (.cells #[.int .i64 28, .int .i64 wd, .int .i64 fl, .slice (some ⟨ab, ao, none⟩) ar.length ca, .int .u32 im, .slice (some ⟨tb, to', none⟩) tt.length ct] 63 (0, 0)) := heap_alloc_new _ _
   have hX3 := cell_of_row _ _ 3 _ _ _ hr3; have hX5 := cell_of_row _ _ 5 _ _ _ hr3
   have HX3 := Lib.hid hX3; have HX5 := Lib.hid hX5; have HAl := Lib.hid hal
   have HO3 := Lib.hid (HO.out.alloc (.cells #[.int .i64 28, .int .i64 wd, .int .i64 fl, .slice (some ⟨ab, ao, none⟩) ar.length ca, .int .u32 im, .slice (some ⟨tb, to', none⟩) tt.length ct] 63))
   have HNe : Hid (some wr.heap.size ≠ (Value.slice ra (rdK rd k).length rc).ownBlock) := Lib.hid fun e => by have := (owns_block HO.out e.symm).2; omega
   have HSz := Lib.hid (show wr.heap.size < (wr.alloc (.cells #[.int .i64 28, .int .i64 wd, .int .i64 fl, .slice (some ⟨ab, ao, none⟩) ar.length ca, .int .u32 im, .slice (some ⟨tb, to', none⟩) tt.length ct] 63)).heap.size by simp)
   rw [hrl] at HNe
   clear hr3 hX3 hX5 hal
   go_upto_region 6 with fail
   generalize hw3 : (wr.alloc _) = w3 at *
   clear hw3 x0 x1 x2 x3 x4 x5
   have HB3 := Lib.hid (HBr.out.trans (HAl.out.mono HBr.out.size))
   have HXt3 := Lib.hid (HXt.out w3 HAl.out)
   generalize wr.heap.size = px at *
   have hX3 := HX3.out; have hX5 := HX5.out
   have hjt : (j : Int) < (tt.length : Int) := by omega
   have hja : (j : Int) < (ar.length : Int) := by omega
   go_wp2_with fail
   go_loopw [12, 10] (fun i rv wx => ∃ jj : Nat, jj ≤ j ∧ i = .int .i64 jj ∧ rv = .slice ra k rc ∧ w3 = wx) (fun i _ _ => j + 1 - (intOf i).toNat)
   case atStart => exact ⟨0, Nat.zero_le _, rfl, rfl, rfl⟩
   case round =>
    obtain ⟨jj, hjj, rfl, rfl, rfl⟩ := hrel
    have hti : (jj : Int) < (tt.length : Int) := by omega
    have hct := HXt3.out jj (by omega)
    by_cases hje : jj = j
    rotate_left
    ·have hjlt : jj < j := by omega
     have hne : tt.getD jj 0 ≠ frm := j3 jj hjlt
     generalize tt.getD jj 0 = t at *
     have hb : (t == frm) = false := by simp [hne]
     go_wp2_with fail
     go_roundw
     case rel => exact ⟨jj + 1, by omega, by go_num, by trivial, by trivial⟩
     case measure => simp [intOf]; omega
    subst hje
    rw [j2] at hct
    have hb : (frm == frm) = true := by simp
    go_upto_region 10 with fail
    have hai : (a : Int) < (N : Int) := by omega
    have HS0 : Hid (∀ u, Below w.heap.size w u → u.cell? ⟨px, 3, none⟩ = some (.slice (some ⟨ab, ao, none⟩) ar.length ca) → u.cell? ⟨q, 14, none⟩ = some (.slice (some ⟨v, 0, none⟩) N N) ∧ u.cell? ⟨px, 3, none⟩ = some (.slice (some ⟨ab, ao, none⟩) ar.length ca) ∧ u.cell? ⟨ab, ao + jj, none⟩ = some (.int .i64 (a : Nat)) ∧ u.cell? ⟨v, a * 3, none⟩ = some (.bool false) ∧ u.cell? ⟨v, a * 3 + 1, none⟩ = some (.int .i64 0) ∧ u.cell? ⟨v, a * 3 + 2, none⟩ = some (.int .u32 (rd k))) := Lib.hid fun u hu h3 => ⟨keep G14.out hu, h3, keep HCa.out hu, HVa.out u hu⟩
    have hs6 := HS0.out w3 HB3.out HX3.out
    have ho3 := HO3.out
    rw [show Value.slice ra (rdK rd k).length rc = .slice ra k rc by rw [hrl]] at ho3
    have HR7 := Lib.hid (ho3.alloc (.cells #[.bool false, .int .i64 0, .int .u32 (rd k)] 47))
    have HB7 := Lib.hid (HB3.out.alloc HB3.out.size (.cells #[.bool false, .int .i64 0, .int .u32 (rd k)] 47))
    have HA7 := Lib.hid ((Below.refl w3.heap.size w3).alloc (Nat.le_refl _) (.cells #[.bool false, .int .i64 0, .int .u32 (rd k)] 47))
    have HNw := Lib.hid (val_new w3 (rd k) 47)
    have HZ7 := Lib.hid HB7.out.size
    have HSl : Hid ((rdK rd k).length ≤ 1000000) := Lib.hid (by rw [hrl]; omega)
    have HX37 := Lib.hid (keep HX3.out HA7.out)
    generalize rd k = y at *
    generalize rdK rd k = Rk at *
    generalize ar.length = an at *
    clear hX3 hX5 hct ho3
    go_wp2_with fail
    refine wp_region_held_drew (S := (fun w' => w'.cell? ⟨q, 14, none⟩ = some (.slice (some ⟨v, 0, none⟩) N N) ∧ w'.cell? ⟨px, 3, none⟩ = some (.slice (some ⟨ab, ao, none⟩) an ca) ∧ w'.cell? ⟨ab, ao + jj, none⟩ = some (.int .i64 (a : Nat)) ∧ w'.cell? ⟨v, a * 3, none⟩ = some (.bool false) ∧ w'.cell? ⟨v, a * 3 + 1, none⟩ = some (.int .i64 0) ∧ w'.cell? ⟨v, a * 3 + 2, none⟩ = some (.int .u32 y))) (by kernel_rfl) hs6 (fun hHeld => ?_)
    refine wpAnyH_take (i := 0) (v := ?v0) (by simp only [List.getElem?_toArray, List.getElem?_cons_zero]; rfl) (by kernel_rfl) (by kernel_rfl) (by kernel_rfl) (by exact fun _ _ _ h => h) (Or.inl ⟨by rfl, ?hy0⟩) (by assumption) ?_
    case hy0 => intro w hSw; (try dsimp only at hSw); go_simp; try with_reducible rfl
    try simp only [Act.put, List.setIfInBounds_toArray, List.set_cons_zero, List.set_cons_succ]
    refine wpAnyH_take (i := 1) (v := ?v1) (by simp only [List.getElem?_toArray, List.getElem?_cons_zero, List.getElem?_cons_succ]; rfl) (by kernel_rfl) (by kernel_rfl) (by kernel_rfl) (by exact fun _ _ _ h => h) (Or.inl ⟨by rfl, ?hy1⟩) (by assumption) ?_
    case hy1 => intro w hSw; (try dsimp only at hSw); go_simp; try with_reducible rfl
    try simp only [Act.put, List.setIfInBounds_toArray, List.set_cons_zero, List.set_cons_succ]
    refine wpAnyH_take (i := 2) (v := ?v2) (by simp only [List.getElem?_toArray, List.getElem?_cons_zero, List.getElem?_cons_succ]; rfl) (by kernel_rfl) (by kernel_rfl) (by kernel_rfl) (by exact fun _ _ _ h => h) (Or.inl ⟨by rfl, ?hy2⟩) (by assumption) ?_
    case hy2 => intro w hSw; (try dsimp only at hSw); go_simp; try with_reducible rfl
    try simp only [Act.put, List.setIfInBounds_toArray, List.set_cons_zero, List.set_cons_succ]
    refine wpAnyH_take (i := 3) (v := ?v3) (by simp only [List.getElem?_toArray, List.getElem?_cons_zero, List.getElem?_cons_succ]; rfl) (by kernel_rfl) (by kernel_rfl) (by kernel_rfl) (by exact fun _ _ _ h => h) (Or.inl ⟨by rfl, ?hy3⟩) (by assumption) ?_
    case hy3 => intro w hSw; (try dsimp only at hSw); go_simp; try with_reducible rfl
    try simp only [Act.put, List.setIfInBounds_toArray, List.set_cons_zero, List.set_cons_succ]
    refine wpAnyH_take (i := 4) (v := ?v4) (by simp only [List.getElem?_toArray, List.getElem?_cons_zero, List.getElem?_cons_succ]; rfl) (by kernel_rfl) (by kernel_rfl) (by kernel_rfl) (by exact fun _ _ _ h => h) (Or.inl ⟨by rfl, ?hy4⟩) (by assumption) ?_
    case hy4 => intro w hSw; (try dsimp only at hSw); go_simp; try with_reducible rfl
    try simp only [Act.put, List.setIfInBounds_toArray, List.set_cons_zero, List.set_cons_succ]
    refine wpAnyH_take (i := 5) (v := ?v5) (by simp only [List.getElem?_toArray, List.getElem?_cons_zero, List.getElem?_cons_succ]; rfl) (by kernel_rfl) (by kernel_rfl) (by kernel_rfl) (by exact fun _ _ _ h => h) (Or.inl ⟨by rfl, ?hy5⟩) (by assumption) ?_
    case hy5 => intro w hSw; (try dsimp only at hSw); go_simp; try with_reducible rfl
    try simp only [Act.put, List.setIfInBounds_toArray, List.set_cons_zero, List.set_cons_succ]
    refine wpAnyH_take (i := 6) (v := ?v6) (by simp only [List.getElem?_toArray, List.getElem?_cons_zero, List.getElem?_cons_succ]; rfl) (by kernel_rfl) (by kernel_rfl) (by kernel_rfl) (by exact fun _ _ _ h => h) (Or.inl ⟨by rfl, ?hy6⟩) (by assumption) ?_
    case hy6 => intro w hSw; (try dsimp only at hSw); go_simp; try with_reducible rfl
    try simp only [Act.put, List.setIfInBounds_toArray, List.set_cons_zero, List.set_cons_succ]
    refine wpAnyH_take (i := 7) (v := ?v7) (by simp only [List.getElem?_toArray, List.getElem?_cons_zero, List.getElem?_cons_succ]; rfl) (by kernel_rfl) (by kernel_rfl) (by kernel_rfl) (by exact fun _ _ _ h => h) (Or.inl ⟨by rfl, ?hy7⟩) (by assumption) ?_
    case hy7 => intro w hSw; (try dsimp only at hSw); go_simp; try with_reducible rfl
    try simp only [Act.put, List.setIfInBounds_toArray, List.set_cons_zero, List.set_cons_succ]
    refine wpAnyH_take (i := 8) (v := ?v8) (by simp only [List.getElem?_toArray, List.getElem?_cons_zero, List.getElem?_cons_succ]; rfl) (by kernel_rfl) (by kernel_rfl) (by kernel_rfl) (by exact fun _ _ _ h => h) (Or.inl ⟨by rfl, ?hy8⟩) (by assumption) ?_
    case hy8 => intro w hSw; (try dsimp only at hSw); go_simp; try with_reducible rfl
    try simp only [Act.put, List.setIfInBounds_toArray, List.set_cons_zero, List.set_cons_succ]
    refine wpAnyH_take (i := 9) (v := ?v9) (by simp only [List.getElem?_toArray, List.getElem?_cons_zero, List.getElem?_cons_succ]; rfl) (by kernel_rfl) (by kernel_rfl) (by kernel_rfl) (by exact fun _ _ _ h => h) (Or.inl ⟨by rfl, ?hy9⟩) (by assumption) ?_
    case hy9 => intro w hSw; (try dsimp only at hSw); go_simp; try with_reducible rfl
    try simp only [Act.put, List.setIfInBounds_toArray, List.set_cons_zero, List.set_cons_succ]
    refine wpAnyH_take (i := 10) (v := ?v10) (by simp only [List.getElem?_toArray, List.getElem?_cons_zero, List.getElem?_cons_succ]; rfl) (by kernel_rfl) (by kernel_rfl) (by kernel_rfl) (by exact fun _ _ _ h => h) (Or.inl ⟨by rfl, ?hy10⟩) (by assumption) ?_
    case hy10 => intro w hSw; (try dsimp only at hSw); go_simp; try with_reducible rfl
    try simp only [Act.put, List.setIfInBounds_toArray, List.set_cons_zero, List.set_cons_succ]
    refine wpAnyH_take (i := 11) (v := ?v11) (by simp only [List.getElem?_toArray, List.getElem?_cons_zero, List.getElem?_cons_succ]; rfl) (by kernel_rfl) (by kernel_rfl) (by kernel_rfl) (by exact fun _ _ _ h => h) (Or.inl ⟨by rfl, ?hy11⟩) (by assumption) ?_
    case hy11 => intro w hSw; (try dsimp only at hSw); go_simp; try with_reducible rfl
    try simp only [Act.put, List.setIfInBounds_toArray, List.set_cons_zero, List.set_cons_succ]
    refine wpAnyH_take (i := 12) (v := ?v12) (by simp only [List.getElem?_toArray, List.getElem?_cons_zero, List.getElem?_cons_succ]; rfl) (by kernel_rfl) (by kernel_rfl) (by kernel_rfl) (by exact fun _ _ _ h => h) (Or.inl ⟨by rfl, ?hy12⟩) (by assumption) ?_
    case hy12 => intro w hSw; (try dsimp only at hSw); go_simp; try with_reducible rfl
    try simp only [Act.put, List.setIfInBounds_toArray, List.set_cons_zero, List.set_cons_succ]
    refine wpAnyH_ready (rs := [13]) (by kernel_rfl) (by simp) ?_
    refine AllReadyH.cons (by simp only [List.getElem?_toArray, List.getElem?_cons_zero, List.getElem?_cons_succ]; rfl) (fun K hK => ?_) AllReadyH.nil
    go_simp
    refine hK.out _ _ (HS0.out _ (below_drew1 HB7.out) HX37.out) (fun hHeld2 => ?_)
    clear hK K
    try simp only [Act.put, List.setIfInBounds_toArray, List.set_cons_zero, List.set_cons_succ]
    refine wpAnyH_ready (rs := [14]) (by kernel_rfl) (by simp) ?_
    refine AllReadyH.cons (by simp only [List.getElem?_toArray, List.getElem?_cons_zero, List.getElem?_cons_succ]; rfl) (fun K hK => ?_) AllReadyH.nil
    refine step_append_val rfl _ _ rfl w.heap.size _ Rk rfl HR7.out ⟨w3.heap.size, 0, none⟩ y rfl HNw.out HSl.out HZ7.out ?_
    intro rv8 w8 ho8 hg8
    have hg8 : (w3.alloc (.cells #[.bool false, .int .i64 0, .int .u32 y] 47)).grownBy w8 _ := ⟨hg8.os, hg8.tape, hg8.output, hg8.size, hg8.block⟩
    obtain ⟨r8, c8, rfl⟩ := owns_shape ho8; have HR8 := Lib.hid ho8; have HB8 := Lib.hid (HB7.out.grown hg8 HZ7.out (fun g hg => (owns_block HR7.out hg).1)); have HX38 := Lib.hid (cell_kept HX37.out hg8 HNe.out); clear ho8 hg8
    try go_simp
    refine hK.out _ _ (HS0.out _ HB8.out HX38.out) (fun hHeld3 => ?_)
    clear hK K
    try simp only [Act.put, List.setIfInBounds_toArray, List.set_cons_zero, List.set_cons_succ]
    refine wpAnyH_ready (rs := [15]) (by kernel_rfl) (by simp) ?_
    refine AllReadyH.cons (by simp only [List.getElem?_toArray, List.getElem?_cons_zero, List.getElem?_cons_succ]; rfl) (fun K hK => ?_) AllReadyH.nil
    go_simp
    refine hK.out _ _ (HS0.out _ HB8.out HX38.out) (fun hHeld4 => ?_)
    clear hK K
    try simp only [Act.put, List.setIfInBounds_toArray, List.set_cons_zero, List.set_cons_succ]
    refine wpAnyH_done (by kernel_rfl) ?_ _
    go_wp2_with fail
    go_roundw
    case rel => exact ⟨k + 1, by omega, by rw [HRs1.out, show Value.slice r8 (k + 1) c8 = Value.slice r8 (Rk ++ [y]).length c8 by rw [List.length_append, hrl]; rfl]; exact HR8.out, HB8.out⟩
    case measure => simp [slLen]; omega
  obtain rfl : k = np := by omega
  have HWr := Lib.hid (HW.out.below hbr)
  have HRd : Hid (∀ u i, Sv3 q v h wr u → i < k → ∃ g, ra = some ⟨g, 0, none⟩ ∧ u.cell? ⟨g, i * 3, none⟩ = some (.bool false) ∧ u.cell? ⟨g, i * 3 + 1, none⟩ = some (.int .i64 0) ∧ u.cell? ⟨g, i * 3 + 2, none⟩ = some (.int .u32 (rd i))) := Lib.hid fun u i hu hi => by
   have ho := owns_of_block HO.out (w' := u) fun g h1 h2 _ => hu.block g h2 (by omega) (by omega) (by omega)
   obtain ⟨g, cap, e, _, _, h1, h2, h3, _⟩ := owns_row3 ho (k := i) (by rw [hrl]; exact hi)
   simp only [Value.slice.injEq] at e
   rw [HRg.out i hi] at h3
   exact ⟨g, e.1, h1, h2, h3⟩
  have HBw := Lib.hid (Sv3.of_below (q := q) (v := v) (h := h) hbr)
  have hlx : Hid (∀ i, i < l.length → ∃ ib io, la = some ⟨ib, io, none⟩ ∧ wr.cell? ⟨ib, io + i * 6, none⟩ = some (.int .i64 (atI l i).op)) := Lib.hid fun i hi => by
   obtain ⟨ib, io, aa, ta, ca, ct, hla, hx0⟩ := HLi.out i hi
   exact ⟨ib, io, hla, keep hx0.c0 hbr⟩
  have hki : ¬ (k : Int) < (l.length : Int) ∨ ∃ ib io op, la = some ⟨ib, io, none⟩ ∧ wr.cell? ⟨ib, io + k * 6, none⟩ = some (.int .i64 op) ∧ (op == 28) = false ∧ (k : Int) < (l.length : Int) := by
   by_cases hend : k < l.length
   ·obtain ⟨ib, io, h1, h2⟩ := hlx.out k hend
    exact .inr ⟨ib, io, _, h1, h2, by simp [HP.out.fin hend], by omega⟩
   ·exact .inl (by omega)
  clear hbr hlx
  rcases hki with hki | ⟨ib, io, op, rfl, x0, hop, hki⟩
  all_goals
   go_wp2_with fail
   try clear x0
   obtain ⟨w2r, hw2r⟩ : ∃ u, u = wr := ⟨_, rfl⟩
   subst hw2r
   go_loopw [13] (fun i wx => ∃ j : Nat, j ≤ k ∧ i = .int .i64 j ∧ WkAt wx base q v h F ⟨pa, pc, sa, sc, some ⟨fb, fo, none⟩, bc⟩ bb (wrK L atn rd j) (s + j) ∧ Sv3 q v h w2r wx) (fun i _ => k - (intOf i).toNat)
   case atStart => exact ⟨0, Nat.zero_le _, rfl, by simpa [wrK] using HWr.out, Sv3.refl _ _ _ _⟩
   case round =>
    obtain ⟨j, hj, rfl, hwj, hsv⟩ := hrel
    have HWj := Lib.hid hwj; have HSv := Lib.hid hsv
    by_cases hjk : j < k
    rotate_left
    ·obtain rfl : j = k := by omega
     clear hwj hsv
     go_wp2_with fail
     go_ret2
     exact ⟨rfl, HWj.out, HBw.out.trans HSv.out⟩
    have hji : (j : Int) < (k : Int) := by omega
    obtain ⟨l1, l2, l3, n1, n2, n3⟩ := hwj.lt
    obtain ⟨o0, o1, o2, o3, o4, hr⟩ := hwj.row
    have c13 := cell_of_row _ _ 13 _ _ _ hr
    have fz13 := frozen_of_row _ q 13 _ _ hr
    have HT := Lib.hid (wTick_any q (s + j) wr (by omega) (by omega) c13 fz13)
    have hw4 := hwj.tick
    have hs4 : Sv3 q v h w2r (wr.setCell ⟨q, 13, none⟩ (.int .i64 (s + j + 1))) := hsv.trans (Sv3.of_save (Save.set q 13 wr _) (.inl rfl))
    have HW4 := Lib.hid hw4; have HS4 := Lib.hid hs4
    clear hwj hsv hr c13 fz13 hw4 hs4 l1 l2 l3
    go_wp2_with fail
    refine HT.out.mono ?_; rintro e w3 ⟨rfl, rfl⟩
    generalize hw4 : wr.setCell ⟨q, 13, none⟩ (.int .i64 (s + j + 1)) = w4 at *
    clear hw4 HT
    obtain ⟨g, rfl, r0, r1, r2⟩ := HRd.out w4 j HS4.out hjk
    obtain ⟨o0, o1, o2, o3, o4, hr⟩ := HW4.out.row
    have hwl := wrK_len L atn rd j
    rw [HNn.out] at hwl
    unfold WkRow at hr
    rw [hwl] at hr
    have c14 := cell_of_row _ _ 14 _ _ _ hr; have c15 := cell_of_row _ _ 15 _ _ _ hr
    have haj : atn + j < N := by omega
    have haji : (atn : Int) + (j : Int) < (N : Int) := by omega
    have haj0 : (0 : Int) ≤ (atn : Int) + (j : Int) := by omega
    have hix : ((atn : Int) + (j : Int)).toNat = atn + j := by omega
    have hwr : IntKind.i64.wrap ((atn : Int) + (j : Int)) = (atn : Int) + (j : Int) := by simp [IntKind.wrap, IntKind.bits, IntKind.signed]; omega
    obtain ⟨g2, cp2, e2, _, _, y0, y1, y2, fz2⟩ := owns_row3 HW4.out.vals (k := atn + j) (by rw [hwl]; exact haj)
    rw [hwl] at e2
    simp only [Value.slice.injEq, Option.some.injEq, Addr.mk.injEq, and_true, true_and] at e2
    obtain ⟨rfl, rfl⟩ := e2
    obtain ⟨hs', hh'⟩ := HW4.out.had
    rw [hwl] at hh'
    have hhl := hh'.1
    obtain ⟨g3, cp3, e3, _, _, _, _, hc3, fz3⟩ := owns_cells hh' (by omega)
    simp only [Value.slice.injEq, Option.some.injEq, Addr.mk.injEq, and_true, true_and] at e3
    obtain ⟨rfl, rfl⟩ := e3
    have z0 := hc3 (atn + j) _ (List.getElem?_eq_getElem (by omega : atn + j < hs'.length))
    have f0 := fz2 ((atn + j) * 3); have f1 := fz2 ((atn + j) * 3 + 1); have f2 := fz2 ((atn + j) * 3 + 2); have f3 := fz3 (atn + j)
    have HFin : Hid (WkAt ((((w4.setCell ⟨v, (atn + j) * 3, none⟩ (.bool false)).setCell ⟨v, (atn + j) * 3 + 1, none⟩ (.int .i64 0)).setCell ⟨v, (atn + j) * 3 + 2, none⟩ (.int .u32 (rd j))).setCell ⟨h, atn + j, none⟩ (.bool true)) base q v h F ⟨pa, pc, sa, sc, some ⟨fb, fo, none⟩, bc⟩ bb (wrK L atn rd (j + 1)) (s + j + 1) ∧ Sv3 q v h w2r ((((w4.setCell ⟨v, (atn + j) * 3, none⟩ (.bool false)).setCell ⟨v, (atn + j) * 3 + 1, none⟩ (.int .i64 0)).setCell ⟨v, (atn + j) * 3 + 2, none⟩ (.int .u32 (rd j))).setCell ⟨h, atn + j, none⟩ (.bool true))) := Lib.hid (by
     obtain ⟨h1, h2⟩ := HW4.out.setv (atn + j) (by rw [hwl]; exact haj) (rd j)
     obtain ⟨h3, h4⟩ := h1.seth (atn + j) (.bool true)
     exact ⟨h3, (HS4.out.trans h2).trans h4⟩)
    generalize rd j = y at *
    generalize hs'[atn + j] = z at *
    generalize (wrK L atn rd j).getD (atn + j) 0 = yo at *
    clear hr hh' hc3 fz2 fz3 hhl hwl
    go_upto_region 16 with fail
    go_still_tail 13, (by kernel_rfl)
    change wpList _ _ _ _ _ w4.drew
    go_wp2_with fail
    go_roundw
    case rel => exact ⟨j + 1, by omega, by go_num, by have := HFin.out.1.below (below_drew1 (Below.refl _ _)); rwa [show s + (j : Int) + 1 = s + ((j + 1 : Nat) : Int) by omega] at this, HFin.out.2.trans (Sv3.of_below (below_drew1 (Below.refl _ _)))⟩
    case measure => simp [intOf]; omega
end Go.Proofs.YtbbbflnnbbaamaaGreatDoor.PK
