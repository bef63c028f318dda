/- Packed of several texts. -/
import Derived.Test.YtbbbflnnbbaamaaGreatDoorH12
import Derived.Shelf.Slices.SearchI
import Derived.Shelf.Slices.Clone
import Derived.Shelf.Slices.Turned
import Derived.Shelf.Slices.Equal
import Derived.Shelf.Slices.Empties2
import Derived.Shelf.Slices.Empties
import Derived.Test.YtbbbflnnbbaamaaGreatDoorProg
namespace Go.Proofs.YtbbbflnnbbaamaaGreatDoor.PK

theorem locI_is : ∀ (ls : List (List Ins)) (k : Nat), k < sumI ls ls.length → (locI ls k).1 < ls.length ∧ (locI ls k).2 < (atBk ls (locI ls k).1).length ∧ sumI ls (locI ls k).1 + (locI ls k).2 = k ∧ ls.flatten[k]? = some (atI (atBk ls (locI ls k).1) (locI ls k).2)
 | [], k, h => by simp [sumI] at h
 | l :: ls, k, h => by
  have hs : sumI (l :: ls) (l :: ls).length = l.length + sumI ls ls.length := by simp [sumI]
  by_cases hk : k < l.length
  ·rw [locI, if_pos hk]
   refine ⟨by simp, hk, by simp [sumI], ?_⟩
   rw [List.flatten_cons, List.getElem?_append_left hk, List.getElem?_eq_getElem hk]
   show _ = some (atI l k)
   rw [atI_get hk]
  ·obtain ⟨h1, h2, h3, h4⟩ := locI_is ls (k - l.length) (by omega)
   rw [locI, if_neg hk]
   refine ⟨by simpa using h1, h2, ?_, ?_⟩
   ·have : sumI (l :: ls) ((locI ls (k - l.length)).1 + 1) = l.length + sumI ls (locI ls (k - l.length)).1 := by simp [sumI]
    rw [this]; omega
   ·rw [List.flatten_cons, List.getElem?_append_right (by omega)]
    exact h4
end Go.Proofs.YtbbbflnnbbaamaaGreatDoor.PK
namespace Go.Proofs
open Go.Shelf
def Tryz.lays111_ren : Go.Shelf.Ren := ⟨fun | 111 => 108 | n => n, fun | 28 => 28 | 3 => 3 | 4 => 4 | 0 => 0 | n => n, fun | n => n⟩
theorem Tryz.lays111 : Go.Proofs.Lays.n111 Tryz.prog Tryz.lays111_ren := {
 mixed := by kernel_rfl
 f111 := Tryz.func108.trans (congrArg some (by kernel_rfl))
 t0 := Tryz.underlying0
 a0 := Tryz.isAgg0
 z0 := Tryz.sizeOf0
 v0 := Tryz.zeroValue0
 t3 := Tryz.underlying3
 a3 := Tryz.isAgg3
 z3 := Tryz.sizeOf3
 v3 := Tryz.zeroValue3
 t4 := Tryz.underlying4
 a4 := Tryz.isAgg4
 z4 := Tryz.sizeOf4
 v4 := Tryz.zeroValue4
 t28 := Tryz.underlying28
 a28 := Tryz.isAgg28
 z28 := Tryz.sizeOf28
 v28 := Tryz.zeroValue28 }
open Go.RowKit Go.Lib in
theorem Tryz.slices_Equal_int (b1 o1 n c b2 o2 m d : Nat) (xs ys : List Int) (w : World) (hx : n ≤ xs.length) (hy : m ≤ ys.length) (hbig : n ≤ 9223372036854775807) (hbig2 : m ≤ 9223372036854775807) (hc1 : ∀ j, j < xs.length → w.cell? ⟨b1, o1 + j, none⟩ = some (.int .i64 (xs.getD j 0))) (hc2 : ∀ j, j < ys.length → w.cell? ⟨b2, o2 + j, none⟩ = some (.int .i64 (ys.getD j 0))) :
  Calls Tryz.prog 108 #[.slice (some ⟨b1, o1, none⟩) n c, .slice (some ⟨b2, o2, none⟩) m d] w fun e w' => e = .returned (.bool (xs.take n == ys.take m)) ∧ ∃ q, w' = w.drewN q := Any.slices_Equal_int Tryz.lays111 b1 o1 n c b2 o2 m d xs ys w hx hy hbig hbig2 hc1 hc2
open Go.RowKit Go.Lib in
theorem Tryz.slices_Equal_int_empty (a1 a2 : Option Addr) (c m d : Nat) (w : World) (hbig2 : m ≤ 9223372036854775807) :
  Calls Tryz.prog 108 #[.slice a1 0 c, .slice a2 m d] w fun e w' => e = .returned (.bool (decide (m = 0))) ∧ w' = w := Any.slices_Equal_int_empty Tryz.lays111 a1 a2 c m d w hbig2
def Tryz.laysNm215_ren : Go.Shelf.Ren := ⟨fun | 15 => 109 | n => n, fun | 22 => 28 | 3 => 3 | 4 => 4 | n => n, fun | n => n⟩
theorem Tryz.laysNm215 : Go.Proofs.Lays2.n15 Tryz.prog Tryz.laysNm215_ren := {
 mixed := by kernel_rfl
 f15 := Tryz.func109.trans (congrArg some (by kernel_rfl))
 t3 := Tryz.underlying3
 a3 := Tryz.isAgg3
 z3 := Tryz.sizeOf3
 v3 := Tryz.zeroValue3
 t4 := Tryz.underlying4
 a4 := Tryz.isAgg4
 z4 := Tryz.sizeOf4
 v4 := Tryz.zeroValue4
 t22 := Tryz.underlying28
 a22 := Tryz.isAgg28
 z22 := Tryz.sizeOf28
 v22 := Tryz.zeroValue28
 i3 := by kernel_rfl }
open Go.RowKit Go.Lib in
theorem Tryz.slices_Clone_int (b off n c : Nat) (zs : List Int) (w : World) (hz : n ≤ zs.length) (hbig : n * 8 ≤ 140737488355328) (hc : ∀ j, j < zs.length → w.cell? ⟨b, off + j, none⟩ = some (.int .i64 (zs.getD j 0))) :
  Calls Tryz.prog 109 #[.slice (some ⟨b, off, none⟩) n c] w fun e w' => ∃ v', e = .returned v' ∧ w'.ownsRow w.heap.size 3 1 v' n ((zs.take n).map (Value.int .i64)) ∧ v' ≠ .slice none 0 0 ∧ Below w.heap.size w w' := Any.slices_Clone_int Tryz.laysNm215 b off n c zs w hz hbig hc
open Go.RowKit Go.Lib in
theorem Tryz.slices_Clone_int_nil (n c : Nat) (w : World) :
  Calls Tryz.prog 109 #[.slice none n c] w fun e w' => e = .returned (.slice none 0 0) ∧ w' = w := Any.slices_Clone_int_nil Tryz.laysNm215 n c w
open Go.RowKit Go.Lib in
theorem Tryz.slices_Clone_int_zero (a : Addr) (c : Nat) (w : World) :
  Calls Tryz.prog 109 #[.slice (some a) 0 c] w fun e w' => ∃ v', e = .returned v' ∧ w'.ownsRow w.heap.size 3 1 v' 0 [] ∧ v' ≠ .slice none 0 0 ∧ Below w.heap.size w w' := Any.slices_Clone_int_zero Tryz.laysNm215 a c w
open Go.RowKit Go.Lib in
theorem Tryz.slices_Equal_int_lens (a1 a2 : Option Addr) (n c m d : Nat) (w : World) (hnm : n ≠ m) :
  Calls Tryz.prog 108 #[.slice a1 n c, .slice a2 m d] w fun e w' => e = .returned (.bool false) ∧ w' = w := Any.slices_Equal_int_lens Tryz.lays111 a1 a2 n c m d w hnm
end Go.Proofs
namespace Go.Proofs.YtbbbflnnbbaamaaGreatDoor.PK
open Go.RowKit Go.Shelf

theorem cloneI_any (zs : List Int) (a : Option Addr) (cap : Nat) (w : World) (hin : IntsIn w a zs) (hl : zs.length ≤ 100000) :
  Calls Tryz.prog 109 #[.slice a zs.length cap] w fun e w' => (∃ v, e = .returned v ∧ w'.ownsRow w.heap.size 3 1 v zs.length (encI zs)) ∧ Below w.heap.size w w' := by
 by_cases h0 : zs = []
 ·subst h0
  cases a with
  | none =>
   refine (Tryz.slices_Clone_int_nil 0 cap w).mono ?_
   rintro e w' ⟨rfl, rfl⟩
   exact ⟨⟨_, rfl, owns_nil _ _ _ _⟩, Below.refl _ _⟩
  | some a =>
   refine (Tryz.slices_Clone_int_zero a cap w).mono ?_
   rintro e w' ⟨v, rfl, ho, _, hb⟩
   exact ⟨⟨_, rfl, ho⟩, hb⟩
 ·obtain ⟨b, off, rfl, _⟩ := hin 0 (List.length_pos_iff.2 h0)
  refine (Tryz.slices_Clone_int b off zs.length cap zs w (Nat.le_refl _) (by omega) (fun j hj => by
   obtain ⟨b', o', e, hc⟩ := hin j hj
   simp only [Option.some.injEq, Addr.mk.injEq, and_true] at e
   obtain ⟨rfl, rfl⟩ := e
   exact hc)).mono ?_
  rintro e w' ⟨v, rfl, ho, _, hb⟩
  rw [List.take_length] at ho
  exact ⟨⟨_, rfl, ho⟩, hb⟩
end Go.Proofs.YtbbbflnnbbaamaaGreatDoor.PK
namespace Go.Proofs.YtbbbflnnbbaamaaGreatDoor.PK
open Go.RowKit Go.Shelf
attribute [local go_sem] Oper.semAt_some

abbrev xI (F : Fun) (k : Nat) : Ins := atI (atBk F.bs (locI F.bs k).1) (locI F.bs k).2
abbrev eI (F : Fun) (E : Nat → Nat → InsA) (k : Nat) : InsA := E (locI F.bs k).1 (locI F.bs k).2
def XAt (w : World) (b : Nat) (x : Ins) (e : InsA) (v : Int) (bk i : Nat) : Prop :=
 w.heap[b]? = some (.cells #[.int .i64 x.op, .int .i64 x.wd, .int .i64 x.fl, .slice e.aa x.ar.length e.ca, .int .u32 x.im, .slice e.ta x.tt.length e.ct, .int .i64 v, .int .i64 bk, .int .i64 i] 119 (0, 0))
theorem XAt.turn {B : Nat} {w w' : World} {b : Nat} {x : Ins} {e : InsA} {v : Int} {bk i : Nat} (h : XAt w b x e v bk i) (ht : Turn B w w') : XAt w' b x e v bk i := ht.heap h
theorem XAt.below {w w' : World} {b : Nat} {x : Ins} {e : InsA} {v : Int} {bk i : Nat} (h : XAt w b x e v bk i) (hb : Below w.heap.size w w') : XAt w' b x e v bk i := (hb.block b (lt_of_block h)).trans h
theorem XAt.cell {w : World} {b : Nat} {x : Ins} {e : InsA} {v : Int} {bk i : Nat} (h : XAt w b x e v bk i) :
  w.cell? ⟨b, 0, none⟩ = some (.int .i64 x.op) ∧ w.cell? ⟨b, 1, none⟩ = some (.int .i64 x.wd) ∧ w.cell? ⟨b, 2, none⟩ = some (.int .i64 x.fl) ∧ w.cell? ⟨b, 3, none⟩ = some (.slice e.aa x.ar.length e.ca) ∧ w.cell? ⟨b, 4, none⟩ = some (.int .u32 x.im) ∧ w.cell? ⟨b, 5, none⟩ = some (.slice e.ta x.tt.length e.ct) ∧
   w.cell? ⟨b, 6, none⟩ = some (.int .i64 v) ∧ w.cell? ⟨b, 7, none⟩ = some (.int .i64 bk) ∧ w.cell? ⟨b, 8, none⟩ = some (.int .i64 i) :=
 ⟨cell_of_row w b 0 _ _ _ h, cell_of_row w b 1 _ _ _ h, cell_of_row w b 2 _ _ _ h, cell_of_row w b 3 _ _ _ h, cell_of_row w b 4 _ _ _ h, cell_of_row w b 5 _ _ _ h, cell_of_row w b 6 _ _ _ h, cell_of_row w b 7 _ _ _ h, cell_of_row w b 8 _ _ _ h⟩
theorem range_all {g : Operand} {p s : Tmp} {assign body : Code} {Q : Exit → Act → World → Prop} {a : Act} {w : World} (F : Fun) (A : FunA) (E : Nat → Nat → InsA) (Bs : Nat)
  (hg : a.eval g = .func (.func 102) #[] #[.pointer (some ⟨Bs, 0, none⟩)]) (hbl : F.bs.length ≤ 1000) (hbn : ∀ k, k < F.bs.length → (atBk F.bs k).length ≤ 1000) (hpl : F.ps.length ≤ 1000)
  (w0 : World) (hb0 : Below w0.heap.size w0 w) (hE : BksIn w0 A.ba F.bs E) (hBs : Bs < w.heap.size) (hB0 : w.cell? ⟨Bs, 0, none⟩ = some (.slice A.pa F.ps.length A.pc)) (hB3 : w.cell? ⟨Bs, 3, none⟩ = some (.slice A.ba F.bs.length A.bc))
  (I : Nat → World → Prop) (Ix : Code → Nat → World → Prop) (hI : ∀ k A A', Turn w.heap.size A A' → I k A → I k A') (hIx : ∀ c k A A', Turn w.heap.size A A' → Ix c k A → Ix c k A') (h0 : I 0 w) (hIs : ∀ k W, I k W → w.heap.size ≤ W.heap.size)
  (hass : ∀ (l k : Nat) (W : World) (K : Act → World → Prop), K { tmps := (a.tmps.setIfInBounds p (encX F E k)).setIfInBounds s (.pointer (some ⟨W.heap.size, 0, none⟩)), defers := [] }
    (W.alloc (.cells #[.int .i64 (xI F k).op, .int .i64 (xI F k).wd, .int .i64 (xI F k).fl, .slice (eI F E k).aa (xI F k).ar.length (eI F E k).ca, .int .u32 (xI F k).im, .slice (eI F E k).ta (xI F k).tt.length (eI F E k).ct, .int .i64 ((F.ps.length : Int) + k), .int .i64 (locI F.bs k).1, .int .i64 (locI F.bs k).2] 119)) →
   assign.wpIn (Fence.wide.inRound l) 1 Tryz.prog (Exit.then K (fun _ _ _ => False)) { tmps := a.tmps.setIfInBounds p (encX F E k), defers := [] } W)
  (hbody : ∀ (l k : Nat) (W : World) (Bx : Nat), w.heap.size ≤ l → I k W → k < sumI F.bs F.bs.length → w.heap.size ≤ Bx → XAt W Bx (xI F k) (eI F E k) ((F.ps.length : Int) + k) (locI F.bs k).1 (locI F.bs k).2 →
   body.wpIn (Fence.wide.inRound l) 1 Tryz.prog (postN w.heap.size w0.heap.size Bs (I (k + 1)) (fun c => Ix c (k + 1)) W) { tmps := (a.tmps.setIfInBounds p (encX F E k)).setIfInBounds s (.pointer (some ⟨Bx, 0, none⟩)), defers := [] } W)
  (hdone : ∀ (D : Nat) (W : World), w.heap.size ≤ D → I (sumI F.bs F.bs.length) W → W.heap[D]? = some (.deferred (some [])) → Q .normal { a with defers := { target := .collected D, args := #[] } :: a.defers } W)
  (hstop : ∀ (D : Nat) (c : Code) (k : Nat) (W : World), w.heap.size ≤ D → k ≤ sumI F.bs F.bs.length → Ix c k W → W.heap[D]? = some (.deferred (some [])) → c.wpIn Fence.wide 3 Tryz.prog Q { a with defers := { target := .collected D, args := #[] } :: a.defers } W) :
  (Code.rangeFunc g #[p] assign body).wpIn Fence.wide 3 Tryz.prog Q a w :=
 wpIn_rangeFunc_list rfl (by omega) (gf := 102) (lb := #[.pointer (some ⟨Bs, 0, none⟩)]) hg trivial (enters_of Tryz.func102 (by kernel_rfl) rfl)
  (all_seq Fence.wide 2 trivial rfl (by omega) Bs F A E hbl hbn hpl w0 w hb0 hE hBs hB0 hB3) hb0.size hBs (fun _ => rfl) I Ix hI hIx h0
  (fun k a' W => I k W ∧ ∃ Bx, w.heap.size ≤ Bx ∧ XAt W Bx (xI F k) (eI F E k) ((F.ps.length : Int) + k) (locI F.bs k).1 (locI F.bs k).2 ∧ a' = { tmps := (a.tmps.setIfInBounds p (encX F E k)).setIfInBounds s (.pointer (some ⟨Bx, 0, none⟩)), defers := [] })
  (fun k a' A A' ht h => by
   obtain ⟨h1, Bx, h2, h3, h4⟩ := h
   exact ⟨hI k A A' ht h1, Bx, h2, h3.turn ht, h4⟩)
  (fun l k W K hi hk hK => by
   have hal : Below W.heap.size W (W.alloc (.cells #[.int .i64 (xI F k).op, .int .i64 (xI F k).wd, .int .i64 (xI F k).fl, .slice (eI F E k).aa (xI F k).ar.length (eI F E k).ca, .int .u32 (xI F k).im, .slice (eI F E k).ta (xI F k).tt.length (eI F E k).ct, .int .i64 ((F.ps.length : Int) + k), .int .i64 (locI F.bs k).1, .int .i64 (locI F.bs k).2] 119)) := (Below.refl _ _).alloc (Nat.le_refl _) _
   have hz := hIs k W hi
   have h := hass l k W K (hK _ _ ((KeepsOthers.alloc _ _).from _) (Kp.of_below hal (Nat.le_trans hb0.size hz) (Nat.lt_of_lt_of_le hBs hz)) ⟨hI k _ _ (Turn.of_below hal) hi, W.heap.size, hz, heap_alloc_new _ _, rfl⟩)
   simpa using h)
  (fun l k a' W hl _ h hk => by
   obtain ⟨h1, Bx, h2, h3, rfl⟩ := h
   exact hbody l k W Bx hl h1 hk h2 h3)
  hdone hstop
end Go.Proofs.YtbbbflnnbbaamaaGreatDoor.PK
namespace Go.Proofs.YtbbbflnnbbaamaaGreatDoor.PK
open Go.RowKit Go.Shelf
attribute [local go_sem] Oper.semAt_some

def wdsI (ls : List (List Ins)) (k : Nat) : List Int := (ls.flatten.take k).map Ins.wd
theorem wdsI_next {F : Fun} {k : Nat} (h : k < sumI F.bs F.bs.length) : wdsI F.bs (k + 1) = wdsI F.bs k ++ [(xI F k).wd] := by
 have h4 := (locI_is F.bs k h).2.2.2
 unfold wdsI
 rw [List.take_add_one, h4, List.map_append]
 rfl
theorem wdsI_len {ls : List (List Ins)} {k : Nat} (h : k ≤ sumI ls ls.length) : (wdsI ls k).length = k := by
 have hf : ∀ m : List (List Ins), m.flatten.length = sumI m m.length := fun m => by
  induction m with
  | nil => rfl
  | cons l m ih => rw [List.flatten_cons, List.length_append, ih]; simp [sumI]
 unfold wdsI
 rw [List.length_map, List.length_take, hf]
 omega
theorem owns_slice {w : World} {B : Nat} {e : TypeId} {s n : Nat} {v : Value} {xs : List Value} (h : w.ownsRow B e s v n xs) : ∃ a cap, v = .slice a n cap := by
 rcases h.2 with ⟨rfl, rfl⟩ | ⟨g, cap, cur, rfl, _⟩
 ·exact ⟨_, _, rfl⟩
 ·exact ⟨_, _, rfl⟩
theorem row_ne {W : World} {n₀ : Nat} {e : TypeId} {s k b : Nat} {v : Value} {xs : List Value} {cs : Array Value} {t : TypeId} {fz : Nat × Nat} (ho : W.ownsRow n₀ e s v k xs) (hb : W.heap[b]? = some (.cells cs t fz)) (hte : t ≠ e) : some b ≠ v.ownBlock := by
 rcases ho.2 with ⟨rfl, _⟩ | ⟨g, cap, cur, rfl, _, hgb, _⟩
 ·simp [Value.ownBlock]
 ·simp only [Value.ownBlock, ne_eq, Option.some.injEq]
  rintro rfl
  rw [hgb] at hb
  cases hb
  exact hte rfl
theorem funC_at {w : World} {b : Nat} {F : Fun} {A : FunA} (h : w.heap[b]? = some (.cells (funC F A) 31 (0, 0))) : w.cell? ⟨b, 0, none⟩ = some (.slice A.pa F.ps.length A.pc) ∧ w.cell? ⟨b, 1, none⟩ = some (.int .i64 F.ret) ∧ w.cell? ⟨b, 2, none⟩ = some (.slice A.sa F.sl.length A.sc) ∧ w.cell? ⟨b, 3, none⟩ = some (.slice A.ba F.bs.length A.bc) :=
 ⟨cell_of_row w b 0 _ _ _ h, cell_of_row w b 1 _ _ _ h, cell_of_row w b 2 _ _ _ h, cell_of_row w b 3 _ _ _ h⟩
structure KnI (w w0 : World) (F : Fun) (A : FunA) (ob Bs : Nat) (xs : List Int) (W : World) : Prop where
 box : ∃ v, Boxed W ob 28 v ∧ W.ownsRow w.heap.size 3 1 v xs.length (encI xs)
 fn : W.heap[Bs]? = some (.cells (funC F A) 31 (0, 0))
 low : Below w.heap.size w W
 big : w0.heap.size ≤ W.heap.size
theorem KnI.turn {w w0 : World} {F : Fun} {A : FunA} {ob Bs B : Nat} {xs : List Int} {W W' : World} (h : KnI w w0 F A ob Bs xs W) (ht : Turn B W W') (hq : w.heap.size ≤ B) (hB : w.heap.size ≤ w0.heap.size) : KnI w w0 F A ob Bs xs W' := by
 obtain ⟨⟨v, h1, h2⟩, h3, h4, h5⟩ := h
 exact ⟨⟨v, ht.boxed h1, ht.owns h2⟩, ht.heap h3, ht.below h4 hq (by omega), Nat.le_trans h5 ht.size⟩
set_option maxRecDepth 100000 in
set_option maxHeartbeats 4000000 in
theorem kinds_any (F : Fun) (A : FunA) (E : Nat → Nat → InsA) (w : World) (hE : BksIn w A.ba F.bs E) (hp : IntsIn w A.pa F.ps) (hbl : F.bs.length ≤ 1000) (hbn : ∀ k, k < F.bs.length → (atBk F.bs k).length ≤ 1000) (hpl : F.ps.length ≤ 1000) :
  Calls Tryz.prog 69 #[funV F A] w fun e w' => (∃ v, e = .returned v ∧ w'.ownsRow w.heap.size 3 1 v (F.ps.length + sumI F.bs F.bs.length) (encI (F.ps ++ wdsI F.bs (sumI F.bs F.bs.length)))) ∧ Below w.heap.size w w' := by
 have hal : Below w.heap.size w (w.alloc (.cells #[.slice A.pa F.ps.length A.pc, .int .i64 F.ret, .slice A.sa F.sl.length A.sc, .slice A.ba F.bs.length A.bc] 31)) := (Below.refl _ _).alloc (Nat.le_refl _) _
 have HCl := Lib.hid (cloneI_any F.ps A.pa A.pc _ (hp.below hal) (by omega))
 have HAl := Lib.hid (all_any F A)
 have HE := Lib.hid hE
 have hr0 : (w.alloc (.cells #[.slice A.pa F.ps.length A.pc, .int .i64 F.ret, .slice A.sa F.sl.length A.sc, .slice A.ba F.bs.length A.bc] 31)).heap[w.heap.size]? = some (.cells (funC F A) 31 (0, 0)) := heap_alloc_new _ _
 obtain ⟨g0, g1, g2, g3⟩ := funC_at hr0
 have HB0 := Lib.hid hal; have HR0 := Lib.hid hr0
 have hsum : sumI F.bs F.bs.length ≤ 1000000 := by have := sumI_le 1000 hbn F.bs.length (Nat.le_refl _); have : F.bs.length * 1000 ≤ 1000 * 1000 := Nat.mul_le_mul_right _ hbl; omega
 have HSum := Lib.hid hsum
 simp only [funV, funC] at HAl ⊢
 clear hE hp hal hr0 hsum
 obtain ⟨i0, hi, hz0, hz1, hz2⟩ := info_parts Tryz.infoInt
 refine (callsIn_wide (n := 3)).1 ?_
 refine callsIn_of_wp_marks Tryz.func69 rfl trivial ?_ rfl
 simp only [Tryz.ntmps69, List.size_toArray, List.length_cons, List.length_nil, Nat.reduceAdd, Nat.reduceSub, Array.replicate_succ, Array.replicate_zero, List.push_toArray, List.append_toArray, List.nil_append, List.cons_append]
 gi_wp2_with fail
 refine ⟨trivial, ?_⟩
 refine (callsIn_wide.2 HCl.out).mono ?_; rintro e w2 ⟨⟨v, rfl, ho⟩, hb2⟩
 have d0 := keep g0 hb2; have d1 := keep g1 hb2; have d2 := keep g2 hb2; have d3 := keep g3 hb2
 have HB2 := Lib.hid (HB0.out.trans (hb2.mono HB0.out.size))
 have HO2 := Lib.hid (owns_base ho HB0.out.size)
 obtain ⟨sa, sc, rfl⟩ := owns_slice ho
 have hl2 := block_lt_of_cell d0
 have hl3 : w.heap.size ≠ w2.heap.size := Nat.ne_of_lt hl2
 clear ho hb2 HCl g0 g1 g2 g3
 gi_wp2_with fail
 refine ⟨trivial, ?_⟩
 refine (callsIn_wide.2 (HAl.out _)).mono ?_; rintro e w4 ⟨rfl, rfl⟩
 gi_wp2_with fail
 have hbx : Boxed ((w2.alloc (.cells #[.slice sa F.ps.length sc] 28)).alloc (.cells (funC F A) 31)) w2.heap.size 28 (.slice sa F.ps.length sc) := (Boxed.new w2 _ _).alloc _
 have hfn : ((w2.alloc (.cells #[.slice sa F.ps.length sc] 28)).alloc (.cells (funC F A) 31)).heap[w2.heap.size + 1]? = some (.cells (funC F A) 31 (0, 0)) := by
  have := heap_alloc_new (w2.alloc (.cells #[.slice sa F.ps.length sc] 28)) (.cells (funC F A) 31)
  simpa using this
 have hb4 : Below w2.heap.size w2 ((w2.alloc (.cells #[.slice sa F.ps.length sc] 28)).alloc (.cells (funC F A) 31)) := ((Below.refl _ _).alloc (Nat.le_refl _) _).alloc (by simp) _
 have hown := owns_below HO2.out hb4
 have hlow := HB2.out.trans (hb4.mono HB2.out.size)
 have hz4 : w2.heap.size + 1 < ((w2.alloc (.cells #[.slice sa F.ps.length sc] 28)).alloc (.cells (funC F A) 31)).heap.size := by simp
 obtain ⟨g0, g1, g2, g3⟩ := funC_at hfn
 simp only [funC] at hbx hfn hb4 hown hlow hz4 g0 g3
 clear d0 d1 d2 d3 hb4 g1 g2
 generalize hW0 : (w2.alloc _).alloc _ = W0 at hbx hfn hown hlow hz4 g0 g3 ⊢
 clear hW0
 generalize hob : w2.heap.size = ob at *
 have hwo : w.heap.size < ob := hl2
 have HLow := Lib.hid hlow
 refine range_all (p := 10) (s := 4) F A E (ob + 1) rfl hbl hbn hpl w hlow HE.out hz4 g0 g3 (fun k W => KnI w W0 F A ob (ob + 1) (F.ps ++ wdsI F.bs k) W) (fun _ _ _ => False)
  (fun k A' A'' ht h => h.turn ht hlow.size hlow.size) (fun _ _ _ _ _ h => h) ⟨⟨_, hbx, by simpa [wdsI] using hown⟩, hfn, hlow, Nat.le_refl _⟩ (fun k W h => h.big) ?assign ?body ?done ?stop
 case assign =>
  intro l k W K hK
  gi_wp2
  exact hK
 case body =>
  intro l k W Bx hl hkn hk hBx hx
  obtain ⟨⟨v, hv, hrow⟩, hfnW, hlo, hbig⟩ := hkn
  have hc := hv.cell
  have x1 := hx.cell.2.1
  have hln : (F.ps ++ wdsI F.bs k).length ≤ 2000000 := by rw [List.length_append, wdsI_len (Nat.le_of_lt hk)]; have := HSum.out; omega
  have HNx := Lib.hid (wdsI_next hk)
  have HX := Lib.hid hx
  clear hx
  generalize hxs : F.ps ++ wdsI F.bs k = xs at *
  have hnx : F.ps ++ wdsI F.bs (k + 1) = xs ++ [(xI F k).wd] := by rw [HNx.out, ← hxs, List.append_assoc]
  have HNx2 := Lib.hid hnx
  clear hnx hxs
  have hzW := hlo.size
  gi_wp2_with (gi_at_builtin; refine wpListIn_append_own _ rfl _ _ 28 rfl w.heap.size 3 i0 (.int .i64 0) 1 8 Tryz.underlying28 hi hz0 hz1 hz2 rfl (by decide) _ _ _ rfl (hrow.alloc _) ⟨W.heap.size, 0, none⟩ 1 1 [.int .i64 (xI F k).wd] rfl rfl (cell_one_new _ _ _) (by simp [Value.oneCell']) (by unfold maxLen; omega) (by omega) (by simp; omega) ?_; intro v' w1 hown' hgrow _; obtain ⟨g', cap', rfl⟩ := ownsRow_succ hown'; obtain ⟨hv1, hv2, hr2, hk2, hb2⟩ := hv.appended (by decide) hrow hzW (Nat.le_of_lt hwo) hown' hgrow; have hc1 := hv1.cell; have hf1 := hv1.frozen)
  have hsame : (w1.setCell ⟨ob, 0, none⟩ (.slice (some ⟨g', 0, none⟩) (xs.length + 1) cap')).heap[ob + 1]? = W.heap[ob + 1]? := by
   rw [Below.heap_setCell _ _ _ _ (by show ob + 1 ≠ ob; omega), hgrow.block _ (by simp; have := lt_of_block hfnW; omega) (row_ne hrow hfnW (by decide)), Below.heap_alloc W _ _ (lt_of_block hfnW)]
  refine ⟨hk2.from _, ⟨hb2, hsame⟩, ⟨_, hv2, ?_⟩, hsame.trans hfnW, hlo.trans hb2, Nat.le_trans hbig ?_⟩
  ·rw [HNx2.out, List.length_append, encI_snoc]; exact hr2
  ·have := hgrow.size; simp at this; simp; omega
 case done =>
  intro D W hD hkn hK
  obtain ⟨⟨v, hv, hrow⟩, _, hlo, _⟩ := hkn
  have hc := hv.cell
  have hln : (F.ps ++ wdsI F.bs (sumI F.bs F.bs.length)).length = F.ps.length + sumI F.bs F.bs.length := by rw [List.length_append, wdsI_len (Nat.le_refl _)]
  rw [hln] at hrow
  have hDz := HLow.out.size
  gi_wp2
  refine ⟨by simp, .inl ⟨_, _, rfl, run_takeDeferred hK, ?_⟩⟩
  exact ⟨_, results_tmp rfl _ _ _, ⟨v, rfl, ownsRow_putObj hrow _ hK rfl⟩, hlo.trans (belowK_b (w := w) (Nat.le_refl _) W D _ _ (by omega) hK rfl rfl)⟩
 case stop =>
  intro D c k W _ _ h _
  exact h.elim
end Go.Proofs.YtbbbflnnbbaamaaGreatDoor.PK
