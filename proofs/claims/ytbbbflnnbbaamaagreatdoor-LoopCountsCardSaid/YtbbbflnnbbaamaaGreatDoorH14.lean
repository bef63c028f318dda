/- Packed of several texts. -/
import Derived.Test.YtbbbflnnbbaamaaGreatDoorH11
import Derived.Deep.OwnRows
import Derived.Deep.MidRow
import Derived.Maps.AppendAt
import Derived.Test.YtbbbflnnbbaamaaGreatDoorH13
namespace Go.Proofs.YtbbbflnnbbaamaaGreatDoor.PK
open Go.RowKit

def RowsIn (w : World) (a : Option Addr) (g : List (List Int)) : Prop :=
 ∀ k, k < g.length → ∃ b off a' cap, a = some ⟨b, off, none⟩ ∧ w.cell? ⟨b, off + k, none⟩ = some (.slice a' (g.getD k []).length cap) ∧ IntsIn w a' (g.getD k [])
theorem RowsIn.below {w w' : World} {a : Option Addr} {g : List (List Int)} (h : RowsIn w a g) (hb : Below w.heap.size w w') : RowsIn w' a g := fun k hk => by
 obtain ⟨b, off, a', cap, rfl, hc, hi⟩ := h k hk
 exact ⟨b, off, a', cap, rfl, keep hc hb, hi.below hb⟩
structure Save (q : Nat) (w w' : World) : Prop where
 os : w'.os = w.os
 tape : w'.tape = w.tape
 output : w'.output = w.output
 size : w.heap.size ≤ w'.heap.size
 block : ∀ k, k < w.heap.size → k ≠ q → w'.heap[k]? = w.heap[k]?
theorem Save.refl (q : Nat) (w : World) : Save q w w := ⟨rfl, rfl, rfl, Nat.le_refl _, fun _ _ _ => rfl⟩
theorem Save.trans {q : Nat} {a b c : World} (h : Save q a b) (k : Save q b c) : Save q a c :=
 ⟨k.os.trans h.os, k.tape.trans h.tape, k.output.trans h.output, Nat.le_trans h.size k.size, fun i hi hq => (k.block i (Nat.lt_of_lt_of_le hi h.size) hq).trans (h.block i hi hq)⟩
theorem Save.of_below {q : Nat} {w w' : World} (h : Below w.heap.size w w') : Save q w w' := ⟨h.os, h.tape, h.output, h.size, fun k hk _ => h.block k hk⟩
theorem Save.set (q v : Nat) (w : World) (x : Value) : Save q w (w.setCell ⟨q, v, none⟩ x) :=
 ⟨rfl, rfl, rfl, by simp [World.setCell], fun k _ hk => Below.heap_setCell _ _ _ _ hk⟩
theorem Save.below {q : Nat} {w w' : World} (h : Save q w w') {B : Nat} (hq : B ≤ q) (hB : B ≤ w.heap.size) : Below B w w' :=
 ⟨h.os, h.tape, h.output, h.size, fun k hk => h.block k (by omega) (by omega)⟩
def valArr (n : Nat) (f : Nat → Value) : Array Value := (Array.range n).map f
theorem valArr_get (n : Nat) (f : Nat → Value) (k : Nat) (h : k < n) : (valArr n f)[k]? = some (f k) := by
 simp [valArr, h]
def upd (f : Nat → Value) (v : Nat) (x : Value) : Nat → Value := fun j => if j = v then x else f j
theorem valArr_set (n : Nat) (f : Nat → Value) (v : Nat) (x : Value) : (valArr n f).setIfInBounds v x = valArr n (upd f v x) := by
 apply Array.ext
 ·simp [valArr]
 ·intro i h1 h2
  have hi : i < n := by simpa [valArr] using h2
  rw [Array.getElem_setIfInBounds (by simpa [valArr] using hi)]
  by_cases c : v = i
  ·subst c; simp [valArr, upd]
  ·have c' : ¬ i = v := fun e => c e.symm
   simp [valArr, upd, c, c']
theorem valArr_made (n : Nat) (x : Value) : madeCells #[x] n = valArr n (fun _ => x) := by
 unfold madeCells valArr
 congr 1
 funext j
 simp [Nat.mod_one]
theorem infoRowI : (Tryz.prog.info? 28).map (fun i => (i.zero, i.size, i.bytes)) = some (some (.slice none 0 0), 1, 24) := by kernel_rfl

def RowAt (w : World) (q : Nat) (v : Value) (xs : List Int) : Prop := ∃ a cap, v = .slice a xs.length cap ∧ IntsIn w a xs ∧ ∀ b off, a = some ⟨b, off, none⟩ → b ≠ q
theorem save_grown {q : Nat} {a b w3 : World} {row : Option Nat} {o : Obj} (h : Save q a b) (hg : (b.alloc o).grownBy w3 row) (hr : ∀ k, row = some k → a.heap.size ≤ k) : Save q a w3 := by
 refine ⟨hg.os.trans h.os, hg.tape.trans h.tape, hg.output.trans h.output, Nat.le_trans h.size (Nat.le_trans (by simp) hg.size), fun k hk hq => ?_⟩
 have hkb : k < b.heap.size := Nat.lt_of_lt_of_le hk h.size
 rw [hg.block k (by simp; omega) (fun e => by have := hr k e.symm; omega), heap_past _ _ _ hkb]
 exact h.block k hk hq
end Go.Proofs.YtbbbflnnbbaamaaGreatDoor.PK
namespace Go.Proofs.YtbbbflnnbbaamaaGreatDoor.PK
open Go.RowKit

theorem cellOf {W W' : World} {b off : Nat} {v : Value} (h : W.cell? ⟨b, off, none⟩ = some v) (hk : W'.heap[b]? = W.heap[b]?) : W'.cell? ⟨b, off, none⟩ = some v := by
 rw [World.cell?_of_block (w := W) hk]; exact h
theorem cell_kept {w w' : World} {b off : Nat} {v : Value} {row : Option Nat} (h : w.cell? ⟨b, off, none⟩ = some v) (hg : w.grownBy w' row) (hne : some b ≠ row) : w'.cell? ⟨b, off, none⟩ = some v := by
 have e := hg.block b (block_lt_of_cell h) hne
 unfold World.cell? at *
 rw [e]; exact h
def RowsAre (w : World) (base : Nat) (row : Option Nat) (L : List (List Int)) (vals : List Value) : Prop :=
 ∀ k, k < L.length → ∃ a cap, vals[k]? = some (.slice a (L.getD k []).length cap) ∧ (L.getD k []).length ≤ cap ∧ (a = none → cap = 0) ∧ IntsIn w a (L.getD k []) ∧ ∀ b off, a = some ⟨b, off, none⟩ → base ≤ b ∧ b < w.heap.size ∧ some b ≠ row
def RowsOwn (w : World) (base : Nat) (v : Value) (L : List (List Int)) : Prop := ∃ vals, w.ownsRow base 28 1 v L.length vals ∧ RowsAre w base v.ownBlock L vals
theorem RowsOwn.nil (w : World) (base : Nat) : RowsOwn w base (.slice none 0 0) [] := ⟨[], owns_nil _ _ _ _, fun _ hk => absurd hk (Nat.not_lt_zero _)⟩
theorem RowsOwn.shape {w : World} {base : Nat} {v : Value} {L : List (List Int)} (h : RowsOwn w base v L) : ∃ a cap, v = .slice a L.length cap := by
 obtain ⟨vals, ho, _⟩ := h
 exact owns_shape ho
theorem RowsAre.below {w w' : World} {base : Nat} {row : Option Nat} {L : List (List Int)} {vals : List Value} (h : RowsAre w base row L vals) (hb : Below w.heap.size w w') : RowsAre w' base row L vals := fun k hk => by
 obtain ⟨a, cap, h1, h2, h0, h3, h4⟩ := h k hk
 exact ⟨a, cap, h1, h2, h0, h3.below hb, fun b off e => ⟨(h4 b off e).1, Nat.lt_of_lt_of_le (h4 b off e).2.1 hb.size, (h4 b off e).2.2⟩⟩
theorem RowsOwn.base {w : World} {base base' : Nat} {v : Value} {L : List (List Int)} (h : RowsOwn w base v L) (hb : base' ≤ base) : RowsOwn w base' v L := by
 obtain ⟨vals, ho, hr⟩ := h
 refine ⟨vals, owns_base ho hb, fun k hk => ?_⟩
 obtain ⟨a, cap, h1, h2, h0, h3, h4⟩ := hr k hk
 exact ⟨a, cap, h1, h2, h0, h3, fun b off e => ⟨Nat.le_trans hb (h4 b off e).1, (h4 b off e).2⟩⟩
def RowsBet (w : World) (lo hi : Nat) (v : Value) (L : List (List Int)) : Prop :=
 ∀ k, k < L.length → ∃ g c a cap, v = .slice (some ⟨g, 0, none⟩) L.length c ∧ lo ≤ g ∧ g < hi ∧ w.cell? ⟨g, k, none⟩ = some (.slice a (L.getD k []).length cap) ∧ (L.getD k []).length ≤ cap ∧ (a = none → cap = 0) ∧ IntsIn w a (L.getD k []) ∧ ∀ b off, a = some ⟨b, off, none⟩ → lo ≤ b ∧ b < hi
theorem RowsOwn.bet {w : World} {base : Nat} {v : Value} {L : List (List Int)} (h : RowsOwn w base v L) : RowsBet w base w.heap.size v L := fun k hk => by
 obtain ⟨vals, ho, hr⟩ := h
 obtain ⟨a, cap, h1, h2, h0, h3, h4⟩ := hr k hk
 obtain ⟨g, c, rfl, _, _, hg, hg2, hc, _⟩ := owns_cells ho (by omega)
 exact ⟨g, c, a, cap, rfl, hg, hg2, hc _ _ h1, h2, h0, h3, fun b off e => ⟨(h4 b off e).1, (h4 b off e).2.1⟩⟩
theorem RowsBet.keep {w w' : World} {lo hi : Nat} {v : Value} {L : List (List Int)} (h : RowsBet w lo hi v L) (hk : ∀ b, lo ≤ b → b < hi → w'.heap[b]? = w.heap[b]?) : RowsBet w' lo hi v L := fun k hkl => by
 obtain ⟨g, c, a, cap, e, h1, h2, h3, h4, h0, h5, h6⟩ := h k hkl
 refine ⟨g, c, a, cap, e, h1, h2, cellOf h3 (hk g h1 h2), h4, h0, fun j hj => ?_, h6⟩
 obtain ⟨b, off, rfl, hc⟩ := h5 j hj
 obtain ⟨h7, h8⟩ := h6 b off rfl
 exact ⟨b, off, rfl, cellOf hc (hk b h7 h8)⟩
theorem RowsOwn.snoc {w w' : World} {base : Nat} {v v' : Value} {L : List (List Int)} {a : Option Addr} {cap : Nat} {xs : List Int} {vals : List Value} (hl : vals.length = L.length) (h : RowsAre w base v.ownBlock L vals) (ho : w'.ownsRow base 28 1 v' (L.length + 1) (vals ++ [.slice a xs.length cap])) (hg : w.grownBy w' v.ownBlock)
  (hat : v'.ownBlock = v.ownBlock ∨ v'.ownBlock = some w.heap.size) (hx : IntsIn w a xs) (hcap : xs.length ≤ cap) (h0 : a = none → cap = 0) (hxb : ∀ b off, a = some ⟨b, off, none⟩ → base ≤ b ∧ b < w.heap.size ∧ some b ≠ v.ownBlock) : RowsOwn w' base v' (L ++ [xs]) := by
 have hkeep : ∀ (b : Option Addr) (ys : List Int), IntsIn w b ys → (∀ c off, b = some ⟨c, off, none⟩ → base ≤ c ∧ c < w.heap.size ∧ some c ≠ v.ownBlock) → IntsIn w' b ys := fun b ys hi hb k hk => by
  obtain ⟨c, off, rfl, hc⟩ := hi k hk
  exact ⟨c, off, rfl, cell_kept hc hg (hb c off rfl).2.2⟩
 have hnew : ∀ c, base ≤ c ∧ c < w.heap.size ∧ some c ≠ v.ownBlock → base ≤ c ∧ c < w'.heap.size ∧ some c ≠ v'.ownBlock := fun c ⟨h3, h1, h2⟩ => ⟨h3, Nat.lt_of_lt_of_le h1 hg.size, fun e => by
  rcases hat with h3 | h3
  ·rw [h3] at e; exact h2 e
  ·rw [h3] at e; cases e; omega⟩
 refine ⟨vals ++ [.slice a xs.length cap], by rw [List.length_append]; exact ho, fun k hk => ?_⟩
 rw [List.length_append, List.length_singleton] at hk
 by_cases e : k < L.length
 ·obtain ⟨b, c, h1, h2, h00, h3, h4⟩ := h k e
  have el : (L ++ [xs]).getD k [] = L.getD k [] := by rw [List.getD_eq_getElem?_getD, List.getD_eq_getElem?_getD, List.getElem?_append_left e]
  rw [el]
  refine ⟨b, c, ?_, h2, h00, hkeep b _ h3 h4, fun d off ed => hnew d (h4 d off ed)⟩
  rw [List.getElem?_append_left (by rw [hl]; exact e)]; exact h1
 ·obtain rfl : k = L.length := by omega
  have el : (L ++ [xs]).getD L.length [] = xs := by simp [List.getD_eq_getElem?_getD]
  rw [el]
  refine ⟨a, cap, ?_, hcap, h0, hkeep a xs hx hxb, fun c off ec => hnew c (hxb c off ec)⟩
  rw [← hl, List.getElem?_append_right (Nat.le_refl _)]
  simp
theorem RowsOwn.rows {w : World} {base : Nat} {v : Value} {L : List (List Int)} (h : RowsOwn w base v L) : ∃ a cap, v = .slice a L.length cap ∧ RowsIn w a L := by
 obtain ⟨a, cap, rfl⟩ := h.shape
 refine ⟨a, cap, rfl, fun k hk => ?_⟩
 obtain ⟨g, c, a', cap', e, _, _, hc, _, _, h3, _⟩ := h.bet k hk
 cases e
 exact ⟨g, 0, a', cap', rfl, by rw [Nat.zero_add]; exact hc, h3⟩
theorem RowsOwn.snoc_own {wr ws w9 : World} {v9 : Value} {base : Nat} {oa : Option Addr} {oc vc : Nat} {va : Option Addr} {L : List (List Int)} {f : List Int} {vals : List Value} {o : Obj}
  (hov : ws.ownsRow base 28 1 (.slice oa L.length oc) L.length vals) (hra : RowsAre ws base (Value.slice oa L.length oc).ownBlock L vals) (hgo : ∀ g, (Value.slice oa L.length oc).ownBlock = some g → g < wr.heap.size) (hbw : base ≤ wr.heap.size)
  (hown : ws.ownsRow wr.heap.size 3 1 (.slice va f.length vc) f.length (encI f)) (h9 : w9.ownsRow base 28 1 v9 (L.length + 1) (vals ++ [.slice va f.length vc])) (hg : (ws.alloc o).grownBy w9 (Value.slice oa L.length oc).ownBlock)
  (hat : v9.ownBlock = (Value.slice oa L.length oc).ownBlock ∨ v9.ownBlock = some (ws.alloc o).heap.size) : RowsOwn w9 base v9 (L ++ [f]) := by
 obtain ⟨va', vc', e', hvc, hvi⟩ := ints_of_owns hown
 cases e'
 have hb6 : Below ws.heap.size ws (ws.alloc o) := (Below.refl ws.heap.size ws).alloc (Nat.le_refl _) o
 refine RowsOwn.snoc (xs := f) (by have := hov.1; omega) (hra.below hb6) h9 hg hat (hvi.below hb6) hvc (fun e => by
  subst e
  obtain ⟨_, ⟨e2, _⟩ | ⟨g, c, cur, e2, _⟩⟩ := hown
  ·exact (Value.slice.inj e2).2.2
  ·cases e2) (fun b' o' e => by
  subst e
  have h1 : wr.heap.size ≤ b' ∧ b' < ws.heap.size := owns_block hown rfl
  refine ⟨by omega, by simp; omega, fun e2 => ?_⟩
  have := hgo b' e2.symm
  omega)
end Go.Proofs.YtbbbflnnbbaamaaGreatDoor.PK
namespace Go.Proofs.YtbbbflnnbbaamaaGreatDoor.PK
open Go.RowKit

def lasI (l : List Ins) : Ins := atI l (l.length - 1)
def gI (F : Fun) : List (List Int) := F.bs.map fun l => (lasI l).tt
theorem gI_len (F : Fun) : (gI F).length = F.bs.length := by simp [gI]
theorem gI_get {F : Fun} {k : Nat} (h : k < F.bs.length) : (gI F).getD k [] = (lasI (atBk F.bs k)).tt := by
 unfold gI
 rw [List.getD_eq_getElem?_getD, List.getElem?_map, List.getElem?_eq_getElem h, atBk_get h]; rfl
theorem gI_snoc {F : Fun} {k : Nat} (h : k < F.bs.length) : (gI F).take (k + 1) = (gI F).take k ++ [(lasI (atBk F.bs k)).tt] := by
 have hk : k < (gI F).length := by rw [gI_len]; exact h
 rw [List.take_succ_eq_append_getElem hk]
 congr 2
 have := gI_get h
 rw [List.getD_eq_getElem?_getD, List.getElem?_eq_getElem hk] at this
 exact this
theorem gI_tl {F : Fun} {k : Nat} (h : k ≤ F.bs.length) : ((gI F).take k).length = k := by rw [List.length_take, gI_len]; omega
set_option maxRecDepth 100000 in
set_option maxHeartbeats 4000000 in
theorem graph_any (F : Fun) (A : FunA) (w : World) (hE : FBIn w A.ba F.bs) (hbl : F.bs.length ≤ 1000) (hbn : ∀ k, k < F.bs.length → 0 < (atBk F.bs k).length ∧ (atBk F.bs k).length ≤ 1000) (htl : ∀ k, k < F.bs.length → (lasI (atBk F.bs k)).tt.length ≤ 1000) :
  Calls Tryz.prog 107 #[funV F A] w fun e w' => (∃ v, e = .returned v ∧ RowsOwn w' w.heap.size v (gI F)) ∧ Below w.heap.size w w' := by
 have hal : Below w.heap.size w (w.alloc (.cells #[.slice A.pa F.ps.length A.pc, .int .i64 F.ret, .slice A.sa F.sl.length A.sc, .slice A.ba F.bs.length A.bc] 31)) := (Below.refl _ _).alloc (Nat.le_refl _) _
 have HE := Lib.hid (hE.below hal)
 have hr0 : (w.alloc (.cells #[.slice A.pa F.ps.length A.pc, .int .i64 F.ret, .slice A.sa F.sl.length A.sc, .slice A.ba F.bs.length A.bc] 31)).heap[w.heap.size]? = some (.cells (funC F A) 31 (0, 0)) := heap_alloc_new _ _
 obtain ⟨g0, g1, g2, g3⟩ := funC_at hr0
 have HB0 := Lib.hid hal
 have HBn := Lib.hid hbn; have HTl := Lib.hid htl
 have HG : Hid ((gI F).take F.bs.length = gI F) := Lib.hid (List.take_of_length_le (by rw [gI_len]; exact Nat.le_refl _))
 have HGt := Lib.hid (fun k h => gI_tl (F := F) (k := k) h)
 have HGs := Lib.hid (fun k h => gI_snoc (F := F) (k := k) h)
 obtain ⟨j0, hj, jp0, jp1, jp2⟩ := info_parts infoRowI
 clear hE hal hr0 hbn htl
 generalize gI F = G at *
 simp only [funV, funC]
 go_enter Tryz.func107, Tryz.ntmps107
 go_upto_region 1 with fail
 generalize w.alloc (.cells #[.slice A.pa F.ps.length A.pc, .int .i64 F.ret, .slice A.sa F.sl.length A.sc, .slice A.ba F.bs.length A.bc] 31) = w1 at *
 generalize hn : F.bs.length = n at *
 have HN := Lib.hid hn; clear hn
 go_wp2_with fail
 clear g0 g1 g2 g3
 go_loopw [9, 3] (fun i v wr => ∃ k : Nat, k ≤ n ∧ i = .int .i64 k ∧ RowsOwn wr w1.heap.size v (G.take k) ∧ Below w1.heap.size w1 wr) (fun i _ _ => n - (intOf i).toNat)
 case atStart => exact ⟨0, Nat.zero_le _, rfl, RowsOwn.nil _ _, Below.refl _ _⟩
 case round =>
  obtain ⟨k, hk, rfl, hro, hb⟩ := hrel
  by_cases hlt : k < n
  rotate_left
  ·obtain rfl : k = n := by omega
   have hro2 := hro.base HB0.out.size
   rw [HG.out] at hro2
   have HF := Lib.hid (And.intro hro2 (HB0.out.trans (hb.mono HB0.out.size)))
   clear hro hb hro2
   go_wp2_with fail
   go_ret
   exact ⟨⟨_, rfl, HF.out.1⟩, HF.out.2⟩
  have hki : (k : Int) < (n : Int) := by omega
  obtain ⟨b, off, a', cap, ha, hc, hin⟩ := HE.out.below hb k (by rw [HN.out]; exact hlt)
  obtain ⟨hm0, hm1⟩ := HBn.out k hlt
  obtain ⟨b2, off2, aa, ta, ca, ct, rfl, hx⟩ := hin ((atBk F.bs k).length - 1) (by omega)
  have hxx : atI (atBk F.bs k) ((atBk F.bs k).length - 1) = lasI (atBk F.bs k) := rfl
  rw [hxx] at hx
  have htt := HTl.out k hlt
  have HSn := Lib.hid (HGs.out k hlt)
  have HLt := Lib.hid (HGt.out k (by omega))
  have HX := Lib.hid hx
  have x5 := hx.c5
  rw [ha]
  clear hin hxx hx
  generalize hm : (atBk F.bs k).length = m at *
  clear hm
  generalize lasI (atBk F.bs k) = x at *
  have hsub : wrap64 ((m : Int) - 1) = (m : Int) - 1 := IntWalk.wrap64_in _ (by omega)
  have hix : ((m : Int) - 1).toNat = m - 1 := by omega
  have hi0 : (0 : Int) ≤ (m : Int) - 1 := by omega
  have hi1 : (m : Int) - 1 < (m : Int) := by omega
  have HCl := Lib.hid (cloneI_any x.tt ta ct wr HX.out.it (by omega))
  obtain ⟨vals, hov, hra⟩ := hro
  obtain ⟨oa, oc, rfl⟩ := owns_shape hov
  have HHv := Lib.hid (fun g e => owns_block hov (g := g) e)
  generalize hQ : G.take k = Q at *
  have HQ := Lib.hid hQ; clear hQ
  have HOv := Lib.hid hov; have HRa := Lib.hid hra; have HB := Lib.hid hb
  have hql : Q.length ≤ 1000 := by rw [HLt.out]; omega
  clear hov hra hb
  go_wp2_with fail
  refine HCl.out.mono ?_; rintro e w6 ⟨⟨v6, rfl, ho6⟩, hb6⟩
  obtain ⟨va, vc, rfl⟩ := owns_shape ho6
  have HO6 := Lib.hid ho6
  have HB6 := Lib.hid hb6
  have HOv6 := Lib.hid ((owns_below HOv.out hb6).alloc (.cells #[.slice va x.tt.length vc] 28))
  have HOw := Lib.hid (owns_below HOv.out hb6)
  have HRw := Lib.hid (HRa.out.below hb6)
  have HZr := Lib.hid HB.out.size
  have HZ6 : Hid (w1.heap.size ≤ (w6.alloc (.cells #[.slice va x.tt.length vc] 28)).heap.size) := Lib.hid (by have := hb6.size; have := HZr.out; simp; omega)
  have HS63 : Hid (Q.length + 1 ≤ maxLen) := Lib.hid (by unfold maxLen; omega)
  have HSb : Hid ((Q.length + 1) * 24 ≤ 140737488355328) := Lib.hid (by omega)
  have HBq : Hid (Below w1.heap.size w1 (w6.alloc (.cells #[.slice va x.tt.length vc] 28))) := Lib.hid ((HB.out.trans (hb6.mono HZr.out)).alloc (by have := hb6.size; have := HZr.out; omega) _)
  clear ho6 hb6 x5 hc HCl
  go_wp2_with (at_builtin; refine wpList_append_own_at _ rfl _ _ 39 rfl w1.heap.size 28 j0 (.slice none 0 0) 1 24 Tryz.underlying39 hj jp0 jp1 jp2 rfl (by decide) _ _ _ rfl HOv6.out ⟨w6.heap.size, 0, none⟩ 1 1 [.slice va x.tt.length vc] rfl rfl (cell_one_at _ _ _) (by simp [Value.oneCell']) HS63.out HSb.out HZ6.out ?_; intro v9 w9 hown9 hgrow9 _ hat9; have HO9 := Lib.hid hown9; have HG9 := Lib.hid hgrow9; have HA9 := Lib.hid hat9; clear hown9 hgrow9 hat9)
  go_roundw
  case rel => exact ⟨k + 1, by omega, by go_num, by rw [HSn.out]; exact RowsOwn.snoc_own HOw.out HRw.out (fun g hg => (HHv.out g hg).2) HZr.out HO6.out HO9.out HG9.out HA9.out, HBq.out.grown HG9.out HBq.out.size (fun g hg => (HHv.out g hg).1)⟩
  case measure => simp [intOf]; omega
end Go.Proofs.YtbbbflnnbbaamaaGreatDoor.PK
