/- The walk of pick's live. -/
import Derived.Test.YtjfpaelmcepidaaQC
import Derived.Test.YtjfpaelmcepidaaKR
import Derived.Deep.OwnRows
import Derived.Test.YtjfpaelmcepidaaMA
namespace Go.Proofs.Ytjfpaelmcepidaa.PK
open Go.RowKit Go.Shelf
attribute [local go_sem] Oper.semAt_some

/-- A block that is a row of n values of a type. -/
def TRow (w : World) (q n : Nat) (t : TypeId) (f : Nat → Value) : Prop := w.heap[q]? = some (.cells (valArr n f) t (0, 0))
theorem TRow.cell {w : World} {q n : Nat} {t : TypeId} {f : Nat → Value} (h : TRow w q n t f) {k : Nat} (hk : k < n) : w.cell? ⟨q, k, none⟩ = some (f k) := by
  rw [cell_of_row w q k _ _ _ h]; exact valArr_get n f k hk
theorem TRow.free {w : World} {q n : Nat} {t : TypeId} {f : Nat → Value} (h : TRow w q n t f) (k : Nat) : w.frozen? ⟨q, k, none⟩ = false := frozen_of_row w q k _ _ h
theorem TRow.lt {w : World} {q n : Nat} {t : TypeId} {f : Nat → Value} (h : TRow w q n t f) : q < w.heap.size := lt_of_block h
theorem TRow.set {w : World} {q n : Nat} {t : TypeId} {f : Nat → Value} (h : TRow w q n t f) (v : Nat) (x : Value) : TRow (w.setCell ⟨q, v, none⟩ x) q n t (upd f v x) := by
  unfold TRow
  rw [heap_setCell_same w q v _ _ _ h, valArr_set n f v x]
theorem TRow.below {w w' : World} {q n : Nat} {t : TypeId} {f : Nat → Value} (h : TRow w q n t f) (hb : Below w.heap.size w w') : TRow w' q n t f := by
  unfold TRow; rw [hb.block q h.lt]; exact h
theorem TRow.save {w w' : World} {q p n : Nat} {t : TypeId} {f : Nat → Value} (h : TRow w q n t f) (hb : Save p w w') (hq : q ≠ p) : TRow w' q n t f := by
  unfold TRow; rw [hb.block q h.lt hq]; exact h
theorem TRow.turn {B : Nat} {w w' : World} {q n : Nat} {t : TypeId} {f : Nat → Value} (h : TRow w q n t f) (hb : Turn B w w') : TRow w' q n t f := hb.heap h
/-- A row of booleans. -/
def BRowF (w : World) (q n : Nat) (S : Nat → Bool) : Prop := TRow w q n 4 fun k => .bool (S k)
/-- The rows of booleans of a program's blocks. -/
structure InRows (w : World) (ib n regs : Nat) (g : Nat → Nat) (S : Nat → Nat → Bool) : Prop where
  head : TRow w ib n 83 fun b => .slice (some ⟨g b, 0, none⟩) regs regs
  rows : ∀ b, b < n → BRowF w (g b) regs (S b)
/-- How a step backward returns. -/
def LivePost (l : List Cd) (S : Nat → Nat → Bool) (regs : Nat) (w : World) (e : Ending) (w' : World) : Prop :=
  (∃ q, e = .returned (.slice (some ⟨q, 0, none⟩) regs regs) ∧ w.heap.size ≤ q ∧ BRowF w' q regs fun r => liveL l (fun c r => S c.toNat r.toNat) r) ∧ Below w.heap.size w w'
structure LvI (w : World) (l : List Cd) (ib n regs : Nat) (S : Nat → Nat → Bool) (k : Nat) (W : World) : Prop where
  low : Below w.heap.size w W
  bin : Boxed W w.heap.size 101 (.slice (some ⟨ib, 0, none⟩) n n)
  box : Boxed W (w.heap.size + 1 + 1) 83 (.slice (some ⟨w.heap.size + 1, 0, none⟩) regs regs)
  row : BRowF W (w.heap.size + 1) regs fun r => liveL (l.drop (l.length - k)) (fun c r => S c.toNat r.toNat) r
  big : w.heap.size + 4 ≤ W.heap.size
theorem LvI.turn {w : World} {l : List Cd} {ib n regs : Nat} {S : Nat → Nat → Bool} {k B : Nat} {W W' : World} (h : LvI w l ib n regs S k W) (ht : Turn B W W') (hB : w.heap.size ≤ B) : LvI w l ib n regs S k W' :=
  ⟨ht.below h.low hB h.low.size, ht.boxed h.bin, ht.boxed h.box, TRow.turn h.row ht, Nat.le_trans h.big ht.size⟩
theorem CdAt.turn {B : Nat} {W W' : World} {b off : Nat} {x : Cd} (h : CdAt W b off x) (ht : Turn B W W') : CdAt W' b off x := ⟨ht.cell h.c0, ht.cell h.c1, ht.cell h.c2, ht.cell h.c3, ht.cell h.c4, ht.cell h.c5⟩
theorem InRows.below {w w' : World} {ib n regs : Nat} {g : Nat → Nat} {S : Nat → Nat → Bool} (h : InRows w ib n regs g S) (hb : Below w.heap.size w w') : InRows w' ib n regs g S := ⟨TRow.below h.head hb, fun b hn => TRow.below (h.rows b hn) hb⟩
theorem Boxed.other' {W : World} {B : Nat} {t : TypeId} {v : Value} (h : Boxed W B t v) {q : Nat} (hne : B ≠ q) (k : Nat) (u : Value) : Boxed (W.setCell ⟨q, k, none⟩ u) B t v := by
  unfold Boxed at *
  rw [Below.heap_setCell _ _ _ _ (show B ≠ q from hne)]; exact h
theorem BRowF.congr {w : World} {q n : Nat} {S S' : Nat → Bool} (h : BRowF w q n S) (he : ∀ k, k < n → S k = S' k) : BRowF w q n S' := by
  unfold BRowF TRow at *
  rw [h]
  congr 2
  unfold valArr
  apply Array.ext
  · simp
  · intro i h1 h2
    have hi : i < n := by simpa using h1
    simp [he i hi]
def stB (f : Nat → Bool) (v : Nat) (x : Bool) : Nat → Bool := fun k => if k = v then x else f k
theorem BRowF.put {w : World} {q n : Nat} {S : Nat → Bool} (h : BRowF w q n S) (v : Nat) (x : Bool) : BRowF (w.setCell ⟨q, v, none⟩ (.bool x)) q n (stB S v x) := by
  have h2 := TRow.set h v (.bool x)
  have e : upd (fun k => Value.bool (S k)) v (.bool x) = fun k => .bool (stB S v x k) := by
    funext k; unfold upd stB; split <;> rfl
  unfold BRowF
  rwa [e] at h2
/-- How things stand within a round. -/
structure LvB (w : World) (ib n regs : Nat) (x : Cd) (Bx Bf B0 : Nat) (W : World) (R : Nat → Bool) (Wc : World) : Prop where
  kf : KeepsFrom B0 W Wc
  kp : Kp w.heap.size (w.heap.size + 1 + 1 + 1) W Wc
  low : Below w.heap.size w Wc
  bin : Boxed Wc w.heap.size 101 (.slice (some ⟨ib, 0, none⟩) n n)
  box : Boxed Wc (w.heap.size + 1 + 1) 83 (.slice (some ⟨w.heap.size + 1, 0, none⟩) regs regs)
  row : BRowF Wc (w.heap.size + 1) regs R
  cx : CdAt Wc Bx 0 x
  ft : Wc.cell? ⟨Bf, 4, none⟩ = some (.bool (fT x.op))
  big : w.heap.size + 4 ≤ Wc.heap.size
  hx : w.heap.size + 4 ≤ Bx
  hf : w.heap.size + 4 ≤ Bf
theorem keepsFrom_below {B : Nat} {A A' : World} (h : Below A.heap.size A A') : KeepsFrom B A A' := ⟨h.size, fun k _ _ hk _ => (h.block k (lt_of_block hk)).trans hk⟩
theorem LvB.below {w : World} {ib n regs : Nat} {x : Cd} {Bx Bf B0 : Nat} {W : World} {R : Nat → Bool} {Wc Wd : World} (h : LvB w ib n regs x Bx Bf B0 W R Wc) (hb : Below Wc.heap.size Wc Wd) : LvB w ib n regs x Bx Bf B0 W R Wd :=
  ⟨h.kf.trans (keepsFrom_below hb), h.kp.trans (Kp.of_below hb h.low.size (by have := h.big; omega)), h.low.trans (hb.mono h.low.size), (Turn.of_below (B := 0) hb).boxed h.bin, (Turn.of_below (B := 0) hb).boxed h.box, TRow.below h.row hb, h.cx.keep hb, keep h.ft hb, Nat.le_trans h.big hb.size, h.hx, h.hf⟩
theorem cell_other {w : World} {b k q j : Nat} {v x : Value} (h : w.cell? ⟨b, k, none⟩ = some v) (hn : b ≠ q) : (w.setCell ⟨q, j, none⟩ x).cell? ⟨b, k, none⟩ = some v := (Save.set q j w x).cell hn h
theorem LvB.put {w : World} {ib n regs : Nat} {x : Cd} {Bx Bf B0 : Nat} {W : World} {R : Nat → Bool} {Wc : World} (h : LvB w ib n regs x Bx Bf B0 W R Wc) (v : Nat) (b : Bool) : LvB w ib n regs x Bx Bf B0 W (stB R v b) (Wc.setCell ⟨w.heap.size + 1, v, none⟩ (.bool b)) := by
  have h1 := h.hx; have h2 := h.hf
  refine ⟨h.kf.trans ((KeepsOthers.setCell _ _ _).from _), h.kp.trans (Kp.setCell _ (by omega) (by omega) _ _), h.low.trans ((Below.refl _ _).setCell (by exact Nat.le_succ _) _), Boxed.other' h.bin (by omega) _ _, Boxed.other' h.box (by omega) _ _, BRowF.put h.row v b, ?_, cell_other h.ft (by omega), by simpa [World.setCell] using h.big, h1, h2⟩
  exact ⟨cell_other h.cx.c0 (by omega), cell_other h.cx.c1 (by omega), cell_other h.cx.c2 (by omega), cell_other h.cx.c3 (by omega), cell_other h.cx.c4 (by omega), cell_other h.cx.c5 (by omega)⟩
theorem LvB.congr {w : World} {ib n regs : Nat} {x : Cd} {Bx Bf B0 : Nat} {W : World} {R R' : Nat → Bool} {Wc : World} (h : LvB w ib n regs x Bx Bf B0 W R Wc) (he : ∀ r, R r = R' r) : LvB w ib n regs x Bx Bf B0 W R' Wc := by
  obtain rfl : R = R' := funext he
  exact h
theorem LvB.start {w : World} {l : List Cd} {ib n regs : Nat} {S : Nat → Nat → Bool} {k : Nat} {x : Cd} {Bx B0 : Nat} {P : Nat → Bool} {W w1 : World} (h : LvI w l ib n regs S k W) (hrow : BRowF W (w.heap.size + 1) regs P) (hx : CdAt W Bx 0 x) (hBx : w.heap.size + 4 ≤ Bx) (hb : Below W.heap.size W w1) (t : TypeId) (d a b i m : Bool) :
    LvB w ib n regs x Bx w1.heap.size B0 W P (w1.alloc (.cells #[.bool d, .bool a, .bool b, .bool i, .bool (fT x.op), .bool m] t)) := by
  have hb2 := hb.trans (((Below.refl w1.heap.size w1).alloc (Nat.le_refl _) (.cells #[.bool d, .bool a, .bool b, .bool i, .bool (fT x.op), .bool m] t)).mono hb.size)
  have h4 := h.big
  exact ⟨keepsFrom_below hb2, Kp.of_below hb2 h.low.size (by omega), h.low.trans (hb2.mono h.low.size), (Turn.of_below (B := 0) hb2).boxed h.bin, (Turn.of_below (B := 0) hb2).boxed h.box, TRow.below hrow hb2, hx.keep hb2, by rw [World.cell?_alloc_at _ _ _ _ rfl]; rfl, Nat.le_trans h4 hb2.size, hBx, Nat.le_trans h4 hb.size⟩
theorem usesL_in {x : Cd} {regs n : Int} (h : isCodeB x regs n = true) : ∀ r ∈ usesL x, 0 ≤ r ∧ r < regs := by
  obtain ⟨_, _, _, ha, ha0, hb, hb0, _⟩ := code_parts h
  intro r hr
  unfold usesL at hr
  by_cases hc : (fA x.op && decide (0 ≤ x.a)) = true
  · have h0 : 0 ≤ x.a ∧ fA x.op = true := by simp at hc; exact ⟨hc.2, hc.1⟩
    have ha := ha h0.2
    rw [if_pos hc] at hr
    cases hB : fB x.op
    · rw [hB] at hr
      simp at hr; omega
    · have hb := hb hB
      rw [hB] at hr
      repeat' split at hr
      all_goals (simp at hr; omega)
  · rw [if_neg hc] at hr
    split at hr
    · rename_i hB
      have hb := hb hB
      simp at hr; omega
    · cases hr
def lvU (x : Cd) (P : Nat → Bool) (m : Nat) : Nat → Bool := fun r => (!defB x r && P r) || ((usesL x).take m).contains (r : Int)
def lvT (x : Cd) (P : Nat → Bool) (S : Nat → Nat → Bool) (m : Nat) : Nat → Bool := fun r => (usesB x r || (!defB x r && P r)) || (if r < m then fT x.op && S x.to.toNat r else false)
theorem lvU_zero {x : Cd} {P R : Nat → Bool} (h : ∀ r, R r = (!defB x r && P r)) (r : Nat) : R r = lvU x P 0 r := by
  rw [h r]; simp [lvU]
theorem lvU_put {x : Cd} {P : Nat → Bool} {m rn : Nat} (hm : m < (usesL x).length) (hr : (usesL x).getD m 0 = rn) (r : Nat) : stB (lvU x P m) rn true r = lvU x P (m + 1) r := by
  have ht : (usesL x).take (m + 1) = (usesL x).take m ++ [(rn : Int)] := by
    rw [List.take_succ_eq_append_getElem hm, ← hr, List.getD_eq_getElem?_getD, List.getElem?_eq_getElem hm]; rfl
  unfold stB lvU
  rw [ht]
  by_cases e : r = rn
  · subst e; simp
  · have e2 : ¬ ((r : Int) = rn) := by omega
    simp [e, e2]
theorem lvU_end {x : Cd} {P : Nat → Bool} {S : Nat → Nat → Bool} {m : Nat} (hm : m = (usesL x).length) (r : Nat) : lvU x P m r = lvT x P S 0 r := by
  subst hm
  unfold lvU lvT usesB
  rw [List.take_length]
  simp [Bool.or_comm]
theorem lvT_put {x : Cd} {P : Nat → Bool} {S : Nat → Nat → Bool} {m : Nat} {b : Bool} (hb : b = (lvT x P S m m || (fT x.op && S x.to.toNat m))) (r : Nat) : stB (lvT x P S m) m b r = lvT x P S (m + 1) r := by
  unfold stB
  by_cases e : r = m
  · subst e
    rw [if_pos rfl, hb]
    unfold lvT
    simp
  · rw [if_neg e]
    unfold lvT
    by_cases h : r < m
    · rw [if_pos h, if_pos (by omega)]
    · rw [if_neg h, if_neg (by omega)]
theorem lvT_end {x : Cd} {P : Nat → Bool} {S : Nat → Nat → Bool} {m r : Nat} (hr : r < m) : lvT x P S m r = (usesB x r || (!defB x r && P r) || (fT x.op && S x.to.toNat r)) := by
  unfold lvT; rw [if_pos hr]
theorem infoBool : (Try.prog.info? 4).map (fun i => (i.zero, i.size, i.bytes)) = some (some (.bool false), 1, 1) := by kernel_rfl
set_option maxRecDepth 100000 in
set_option maxHeartbeats 8000000 in
theorem slive_any (l : List Cd) (la : Option Addr) (cap ib n regs : Nat) (g : Nat → Nat) (S : Nat → Nat → Bool) (w : World) (hin : CdsIn w la l) (hrows : InRows w ib n regs g S) (hl : l.length ≤ 9223372036854775807) (hr : regs ≤ 200)
    (hc : ∀ i, i < l.length → isCodeB (atC l i) regs n = true) :
    Calls Try.prog 55 #[.slice la l.length cap, .slice (some ⟨ib, 0, none⟩) n n, .int .i64 regs] w (LivePost l S regs w) := by
  have HI := Lib.hid hin; have HR := Lib.hid hrows; have HC := Lib.hid hc
  clear hin hrows hc
  have hmk := run_make_row' (P := Try.prog) 83 4 (.bool false) 1 Try.underlying83 infoBool rfl .i64 .i64 regs (by omega) (by omega)
  refine (callsIn_wide (n := 3)).1 ?_
  refine callsIn_of_wp_marks Try.func55 rfl trivial ?_ rfl
  simp only [Try.ntmps55, List.size_toArray, List.length_cons, List.length_nil, Nat.reduceAdd, Nat.reduceSub, Array.replicate_succ, Array.replicate_zero, List.push_toArray, List.append_toArray, List.nil_append, List.cons_append]
  gi_wp2_with fail
  refine ⟨trivial, ?_⟩
  refine (callsIn_wide.2 (backC_any _ _ _ _)).mono ?_; rintro e w3 ⟨rfl, rfl⟩
  gi_wp2_with fail
  have hal : Below w.heap.size w ((((w.alloc (.cells #[.slice (some ⟨ib, 0, none⟩) n n] 101)).alloc (.cells (madeCells #[.bool false] regs) 4)).alloc (.cells #[.slice (some ⟨w.heap.size + 1, 0, none⟩) regs regs] 83)).alloc (.cells #[.slice la l.length cap] 48)) :=
    ((((Below.refl _ _).alloc (Nat.le_refl _) _).alloc (by simp) _).alloc (by simp; omega) _).alloc (by simp; omega) _
  obtain ⟨W0, hW0⟩ : ∃ W0, (((w.alloc (.cells #[.slice (some ⟨ib, 0, none⟩) n n] 101)).alloc (.cells (madeCells #[.bool false] regs) 4)).alloc (.cells #[.slice (some ⟨w.heap.size + 1, 0, none⟩) regs regs] 83)).alloc (.cells #[.slice la l.length cap] 48) = W0 := ⟨_, rfl⟩
  have hsz : W0.heap.size = w.heap.size + 4 := by rw [← hW0]; simp
  have hin0 : Boxed W0 w.heap.size 101 (.slice (some ⟨ib, 0, none⟩) n n) := by
    rw [← hW0]; exact (((Boxed.new w _ _).alloc _).alloc _).alloc _
  have hq0 : BRowF W0 (w.heap.size + 1) regs fun _ => false := by
    rw [← hW0]
    unfold BRowF TRow
    rw [heap_past _ _ _ (by simp), heap_past _ _ _ (by simp), heap_at _ _ _ (by simp), valArr_made]
  have hp0 : Boxed W0 (w.heap.size + 1 + 1) 83 (.slice (some ⟨w.heap.size + 1, 0, none⟩) regs regs) := by
    rw [← hW0]
    refine Boxed.alloc ?_ _
    have h := Boxed.new ((w.alloc (.cells #[.slice (some ⟨ib, 0, none⟩) n n] 101)).alloc (.cells (madeCells #[.bool false] regs) 4)) 83 (.slice (some ⟨w.heap.size + 1, 0, none⟩) regs regs)
    simpa using h
  have hb0 : W0.cell? ⟨w.heap.size + 1 + 1 + 1, 0, none⟩ = some (.slice la l.length cap) := by
    rw [← hW0, World.cell?_alloc_at _ _ _ _ (by simp)]; rfl
  rw [hW0] at hal ⊢
  clear hW0 hmk
  refine wpIn_rangeFunc_list rfl (by omega) (gf := 117) (lb := #[.pointer (some ⟨w.heap.size + 1 + 1 + 1, 0, none⟩)]) rfl trivial (enters_of Try.func117 (by kernel_rfl) rfl)
    (backC_seq Fence.wide 2 trivial rfl (by omega) (w.heap.size + 1 + 1 + 1) la cap l hl w W0 hal HI.out (by omega) hb0) (by omega) (by omega) (fun _ => rfl)
    (fun k W => LvI w l ib n regs S k W) (fun _ _ _ => False) (fun k A A' ht h => h.turn ht (by omega)) (fun _ _ _ _ _ h => h) ⟨hal, hin0, hp0, by
      rw [Nat.sub_zero, List.drop_length]; exact hq0, by omega⟩
    (fun k a' W => LvI w l ib n regs S k W ∧ ∃ Bx, W0.heap.size ≤ Bx ∧ CdAt W Bx 0 (atC l (l.length - 1 - k)) ∧ a' = { tmps := #[.slice la l.length cap, .slice (some ⟨ib, 0, none⟩) n n, .int .i64 regs, undef, .pointer (some ⟨w.heap.size, 0, none⟩), undef, .slice none 0 0, .pointer (some ⟨w.heap.size + 1 + 1, 0, none⟩), undef, .pointer (some ⟨Bx, 0, none⟩), undef, undef, undef, undef, undef, .int .i64 regs, .slice (some ⟨w.heap.size + 1, 0, none⟩) regs regs, .slice la l.length cap, .func (.func 117) #[] #[.pointer (some ⟨w.heap.size + 1 + 1 + 1, 0, none⟩)], .int .i64 ((l.length - 1 - k : Nat) : Int), cdV (atC l (l.length - 1 - k)), undef, undef, undef, undef, undef, undef, undef, undef, undef, undef, undef, undef, undef, undef, undef, undef, undef, undef, undef, undef, undef, undef, undef, undef, undef, undef, undef, undef, undef, undef, undef, undef, undef, undef, undef, undef, undef, undef, undef, undef, undef, undef, undef, undef, undef, undef, undef, undef, undef, undef, undef], defers := [] })
    (fun k a' A A' ht h => by
      obtain ⟨h1, Bx, h2, h3, h4⟩ := h
      exact ⟨h1.turn ht (by omega), Bx, h2, h3.turn ht, h4⟩) ?assign ?body ?done ?stop
  case assign =>
    intro L k W K hi hk hK
    gi_wp2
    refine hK _ _ ((KeepsOthers.alloc _ _).from _) (Kp.of_below ((Below.refl _ _).alloc (Nat.le_refl _) _) ?_ ?_) ⟨?_, W.heap.size, ?_, cdAt_new W _ _, ?_⟩
    · exact hi.low.size
    · have := hi.big; omega
    · exact hi.turn (Turn.of_below ((Below.refl _ _).alloc (Nat.le_refl _) _) (B := w.heap.size)) (Nat.le_refl _)
    · have := hi.big; omega
    · rfl
  case body =>
    rintro L k a' W hL - ⟨hI, Bx, hBx, hx, rfl⟩ hk
    obtain ⟨j, hj⟩ : ∃ j, l.length - 1 - k = j := ⟨_, rfl⟩
    have hjl : j < l.length := by omega
    have hcode := HC.out j hjl
    obtain ⟨P, hP⟩ : ∃ P : Nat → Bool, ∀ r : Nat, P r = liveL (l.drop (l.length - k)) (fun c r => S c.toNat r.toNat) r := ⟨_, fun _ => rfl⟩
    have hrow : BRowF W (w.heap.size + 1) regs P := by
      rw [show P = fun r : Nat => liveL (l.drop (l.length - k)) (fun c r => S c.toNat r.toNat) r from funext hP]
      exact hI.row
    have HEnd : Hid (∀ R Bf Wc, LvB w ib n regs (atC l j) Bx Bf W0.heap.size W R Wc → (∀ r : Nat, r < regs → R r = (usesB (atC l j) r || (!defB (atC l j) r && P r) || (fT (atC l j).op && S (atC l j).to.toNat r))) → KeepsFrom W0.heap.size W Wc ∧ Kp w.heap.size (w.heap.size + 1 + 1 + 1) W Wc ∧ LvI w l ib n regs S (k + 1) Wc) := Lib.hid (fun R Bf Wc h he => ⟨h.kf, h.kp, h.low, h.bin, h.box, by
      refine BRowF.congr h.row fun r hr => ?_
      rw [he r hr, show l.length - (k + 1) = j by omega, liveL_drop l j hjl, show j + 1 = l.length - k by omega, hP r]; simp, h.big⟩)
    rw [hj] at hx ⊢
    clear hP
    generalize hx0 : atC l j = x at *
    clear hx0 hj
    have hcp := code_parts hcode
    have hdr := hcp.2.1
    have HTo := Lib.hid hcp.2.2.2.2.2.2.2.1
    have HUin := Lib.hid (usesL_in hcode)
    have HX := Lib.hid hx; have HI2 := Lib.hid hI; have HRow := Lib.hid hrow
    have hbx4 : w.heap.size + 4 ≤ Bx := by omega
    clear hcp hcode hI hrow
    have c0 := hx.c0
    have HF : Hid (∀ u, Calls Try.prog 86 #[.int .i64 x.op] u fun e u' => e = .returned (.tuple #[.agg #[.bool (fD x.op), .bool (fA x.op), .bool (fB x.op), .bool (fI x.op), .bool (fT x.op), .bool (fM x.op)], .bool (fO x.op)]) ∧ Below u.heap.size u u') := Lib.hid (fieldsOf_any x.op)
    clear hx
    have HDef : Hid (∀ r : Nat, defB x r = (fD x.op && decide (x.d = (r : Int)))) := Lib.hid fun _ => rfl
    gi_wp2_with fail
    refine ⟨trivial, ?_⟩
    refine (CallsIn.inRound L (callsIn_wide.2 (HF.out _))).mono ?_; rintro e w1 ⟨rfl, hb1⟩
    have hM := LvB.start (B0 := W0.heap.size) HI2.out HRow.out HX.out hbx4 hb1 134 (fD x.op) (fA x.op) (fB x.op) (fI x.op) (fM x.op)
    have HM := Lib.hid hM
    clear hb1 hM c0
    have HU := Lib.hid (uses_any x)
    unfold UsesPost at HU
    cases hd : fD x.op
    · rw [hd] at HDef HM
      have k0 := HM.out.box.cell
      obtain ⟨x0, x1, x2, x3, x4, x5⟩ := HM.out.cx
      simp only [Nat.zero_add] at x1 x2 x3 x4 x5
      gi_wp2_with fail
      have HR1 : Hid (∀ r : Nat, P r = (!defB x r && P r)) := Lib.hid fun r => by rw [HDef.out]; simp
      have HMc := HM
      refine ⟨trivial, ?_⟩
      refine (CallsIn.inRound L (callsIn_wide.2 (HU.out _))).mono ?_; rintro e w3 ⟨⟨v, rfl, ho⟩, hb3⟩
      have hM3 := HMc.out.below hb3
      have hbig := HMc.out.big
      have HUr := Lib.hid (rowAt_owns ho (q := w.heap.size + 1) (by omega))
      obtain ⟨ua, uc, rfl⟩ := owns_shape ho
      have HM3 := Lib.hid (hM3.congr (lvU_zero HR1.out))
      have hul := usesL_len x
      clear ho hb3 hM3 hbig k0 x0 x1 x2 x3 x4 x5 HMc HR1 
      gi_wp2_with fail
      gi_loopw [36] (fun c wr => ∃ m : Nat, m ≤ (usesL x).length ∧ c = .int .i64 m ∧ LvB w ib n regs x Bx w1.heap.size W0.heap.size W (lvU x P m) wr ∧ RowAt wr (w.heap.size + 1) (.slice ua (usesL x).length uc) (usesL x)) (fun c _ => (usesL x).length - (intOf c).toNat)
      case atStart => exact ⟨0, Nat.zero_le _, rfl, HM3.out, HUr.out⟩
      case round =>
        obtain ⟨m, hm, rfl, hB, hU⟩ := hrel
        have HB := Lib.hid hB; have HUw := Lib.hid hU
        by_cases hlt : m < (usesL x).length
        · obtain ⟨a', cap', e', hi', hne'⟩ := hU
          cases e'
          obtain ⟨b, off, rfl, hcu⟩ := hi' m hlt
          have hrn := HUin.out ((usesL x).getD m 0) (by rw [List.getD_eq_getElem?_getD, List.getElem?_eq_getElem hlt]; exact List.getElem_mem hlt)
          obtain ⟨rn, hrne⟩ : ∃ rn : Nat, (usesL x).getD m 0 = rn := ⟨((usesL x).getD m 0).toNat, by omega⟩
          rw [hrne] at hcu hrn
          have hbox := hB.box.cell
          have hcell := TRow.cell hB.row (show rn < regs by omega)
          have hfree := TRow.free hB.row rn
          have HPut := Lib.hid (lvU_put (P := P) hlt hrne)
          clear hB hi' hne' hrne
          have hml : (m : Int) < (usesL x).length := by omega
          generalize hlen : (usesL x).length = ul at *
          clear hlen
          gi_wp2_with fail
          go_roundw
          case rel => exact ⟨m + 1, by omega, by go_num, (HB.out.put rn true).congr HPut.out, RowAt.save HUw.out (Save.set _ _ _ _)⟩
          case measure => simp [intOf]; omega
        · have hme : m = (usesL x).length := by omega
          have HB2 := Lib.hid (hB.congr (lvU_end (S := S) hme))
          have hbox := hB.box.cell
          clear hB hU HB HUw HUr HM3 hme
          gi_wp2_with fail
          gi_loopw [46] (fun c wr => ∃ m : Nat, m ≤ regs ∧ c = .int .i64 m ∧ LvB w ib n regs x Bx w1.heap.size W0.heap.size W (lvT x P S m) wr) (fun c _ => regs - (intOf c).toNat)
          case atStart => exact ⟨0, Nat.zero_le _, rfl, HB2.out⟩
          case round =>
            obtain ⟨m2, hm2, rfl, hB3⟩ := hrel
            have HB3 := Lib.hid hB3
            by_cases hlt2 : m2 < regs
            · have k0 := hB3.box.cell
              have k1 := TRow.cell hB3.row hlt2
              have k2 := TRow.free hB3.row m2
              have k3 := hB3.ft
              have hlt3 : (m2 : Int) < (regs : Int) := by omega
              have HPut := Lib.hid (fun b => lvT_put (x := x) (P := P) (S := S) (m := m2) (b := b))
              have HCur := Lib.hid hB3
              have hlow := hB3.low
              have hbin := hB3.bin.cell
              have x5 := hB3.cx.c5
              simp only [Nat.zero_add] at x5
              clear hB3 hlt2
              obtain ⟨tb, hT⟩ : ∃ tb, fT x.op = tb := ⟨_, rfl⟩
              rw [hT] at k3
              obtain ⟨cb, hcur⟩ : ∃ cb, lvT x P S m2 m2 = cb := ⟨_, rfl⟩
              rw [hcur] at k1
              have HT := Lib.hid hT; have HC0 := Lib.hid hcur
              clear hT hcur
              cases cb
              · cases tb
                · have hT := HT.out; have hcur := HC0.out
                  have HE := Lib.hid (HPut.out false (by rw [hcur, hT]; rfl))
                  clear x5 hbin hlow HPut HCur hT hcur
                  gi_wp2_with fail
                  refine wpIn_region_tail_round 21 (by kernel_rfl) (by kernel_rfl) (fun ⟨_, _, h⟩ => h) (by kernel_rfl) ?_
                  simp only [List.take_succ_cons, List.take_zero, List.drop_succ_cons, List.drop_zero]
                  iterate 10 (refine still_step_h (fun K hK => ?_); go_simp; refine hK.out _ ?_; clear hK K)
                  iterate 8 (refine still_skip_h (by rfl) ?_; simp only [Act.put, List.setIfInBounds_toArray, List.set_cons_zero, List.set_cons_succ])
                  iterate 3 (refine still_step_h (fun K hK => ?_); go_simp; refine hK.out _ ?_; clear hK K)
                  refine still_nil_h ?_
                  go_wp2_with fail
                  gi_wp2_with fail
                  go_roundw
                  case rel => exact ⟨m2 + 1, by omega, by go_num, ((HB3.out.put m2 false).congr HE.out).below (below_drew1 (Below.refl _ _))⟩
                  case measure => simp [intOf]; omega
                · have hT := HT.out; have hcur := HC0.out
                  obtain ⟨ht0, ht1⟩ := HTo.out hT
                  obtain ⟨tn, htn⟩ : ∃ tn : Nat, x.to = tn := ⟨x.to.toNat, by omega⟩
                  rw [htn] at x5
                  have htl : (tn : Int) < (n : Int) := by omega
                  have hRw := HR.out.below hlow
                  have k4 := TRow.cell hRw.head (show tn < n by omega)
                  have k5 := TRow.cell (hRw.rows tn (by omega)) (show m2 < regs by omega)
                  have HE := Lib.hid (HPut.out (S tn m2) (by rw [hcur, hT, htn]; rfl))
                  clear hlow HPut HCur hRw htn ht0 ht1 hT hcur
                  gi_wp2_with fail
                  refine wpIn_region_tail_round 21 (by kernel_rfl) (by kernel_rfl) (fun ⟨_, _, h⟩ => h) (by kernel_rfl) ?_
                  simp only [List.take_succ_cons, List.take_zero, List.drop_succ_cons, List.drop_zero]
                  iterate 21 (refine still_step_h (fun K hK => ?_); go_simp; refine hK.out _ ?_; clear hK K)
                  refine still_nil_h ?_
                  go_wp2_with fail
                  gi_wp2_with fail
                  go_roundw
                  case rel => exact ⟨m2 + 1, by omega, by go_num, ((HB3.out.put m2 (S tn m2)).congr HE.out).below (below_drew1 (Below.refl _ _))⟩
                  case measure => simp [intOf]; omega
              · have hcur := HC0.out
                have HE := Lib.hid (HPut.out true (by rw [hcur]; rfl))
                clear x5 hbin hlow HPut HCur k3 hcur
                gi_wp2_with fail
                refine wpIn_region_tail_round 21 (by kernel_rfl) (by kernel_rfl) (fun ⟨_, _, h⟩ => h) (by kernel_rfl) ?_
                simp only [List.take_succ_cons, List.take_zero, List.drop_succ_cons, List.drop_zero]
                iterate 7 (refine still_step_h (fun K hK => ?_); go_simp; refine hK.out _ ?_; clear hK K)
                iterate 12 (refine still_skip_h (by rfl) ?_; simp only [Act.put, List.setIfInBounds_toArray, List.set_cons_zero, List.set_cons_succ])
                iterate 2 (refine still_step_h (fun K hK => ?_); go_simp; refine hK.out _ ?_; clear hK K)
                refine still_nil_h ?_
                go_wp2_with fail
                gi_wp2_with fail
                go_roundw
                case rel => exact ⟨m2 + 1, by omega, by go_num, ((HB3.out.put m2 true).congr HE.out).below (below_drew1 (Below.refl _ _))⟩
                case measure => simp [intOf]; omega
            · have hme2 : m2 = regs := by omega
              have HFin := Lib.hid (HEnd.out _ _ _ hB3 (fun r hr => lvT_end (by omega)))
              clear hB3 HB3
              gi_wp2_with fail
              exact HFin.out
    · rw [hd] at HDef HM
      have k0 := HM.out.box.cell
      obtain ⟨x0, x1, x2, x3, x4, x5⟩ := HM.out.cx
      simp only [Nat.zero_add] at x1 x2 x3 x4 x5
      have hdr := hdr hd
      obtain ⟨dn, hdn⟩ : ∃ dn : Nat, x.d = dn := ⟨x.d.toNat, by omega⟩
      rw [hdn] at x1
      have hdl : (dn : Int) < (regs : Int) := by omega
      clear hdr
      have k2 := TRow.cell HM.out.row (show dn < regs by omega)
      have k3 := TRow.free HM.out.row dn
      have HR1 : Hid (∀ r : Nat, stB P dn false r = (!defB x r && P r)) := Lib.hid fun r => by
        rw [HDef.out]
        unfold stB
        by_cases e : r = dn
        · subst e; simp [hdn]
        · have e2 : ¬ (x.d = (r : Int)) := by omega
          simp [e, e2]
      have HMc := Lib.hid (HM.out.put dn false)
      rw [hdn] at HU
      clear hdn
      gi_wp2_with fail
      refine ⟨trivial, ?_⟩
      refine (CallsIn.inRound L (callsIn_wide.2 (HU.out _))).mono ?_; rintro e w3 ⟨⟨v, rfl, ho⟩, hb3⟩
      have hM3 := HMc.out.below hb3
      have hbig := HMc.out.big
      have HUr := Lib.hid (rowAt_owns ho (q := w.heap.size + 1) (by omega))
      obtain ⟨ua, uc, rfl⟩ := owns_shape ho
      have HM3 := Lib.hid (hM3.congr (lvU_zero HR1.out))
      have hul := usesL_len x
      clear ho hb3 hM3 hbig k0 x0 x1 x2 x3 x4 x5 HMc HR1 k2 k3
      gi_wp2_with fail
      gi_loopw [36] (fun c wr => ∃ m : Nat, m ≤ (usesL x).length ∧ c = .int .i64 m ∧ LvB w ib n regs x Bx w1.heap.size W0.heap.size W (lvU x P m) wr ∧ RowAt wr (w.heap.size + 1) (.slice ua (usesL x).length uc) (usesL x)) (fun c _ => (usesL x).length - (intOf c).toNat)
      case atStart => exact ⟨0, Nat.zero_le _, rfl, HM3.out, HUr.out⟩
      case round =>
        obtain ⟨m, hm, rfl, hB, hU⟩ := hrel
        have HB := Lib.hid hB; have HUw := Lib.hid hU
        by_cases hlt : m < (usesL x).length
        · obtain ⟨a', cap', e', hi', hne'⟩ := hU
          cases e'
          obtain ⟨b, off, rfl, hcu⟩ := hi' m hlt
          have hrn := HUin.out ((usesL x).getD m 0) (by rw [List.getD_eq_getElem?_getD, List.getElem?_eq_getElem hlt]; exact List.getElem_mem hlt)
          obtain ⟨rn, hrne⟩ : ∃ rn : Nat, (usesL x).getD m 0 = rn := ⟨((usesL x).getD m 0).toNat, by omega⟩
          rw [hrne] at hcu hrn
          have hbox := hB.box.cell
          have hcell := TRow.cell hB.row (show rn < regs by omega)
          have hfree := TRow.free hB.row rn
          have HPut := Lib.hid (lvU_put (P := P) hlt hrne)
          clear hB hi' hne' hrne
          have hml : (m : Int) < (usesL x).length := by omega
          generalize hlen : (usesL x).length = ul at *
          clear hlen
          gi_wp2_with fail
          go_roundw
          case rel => exact ⟨m + 1, by omega, by go_num, (HB.out.put rn true).congr HPut.out, RowAt.save HUw.out (Save.set _ _ _ _)⟩
          case measure => simp [intOf]; omega
        · have hme : m = (usesL x).length := by omega
          have HB2 := Lib.hid (hB.congr (lvU_end (S := S) hme))
          have hbox := hB.box.cell
          clear hB hU HB HUw HUr HM3 hme
          gi_wp2_with fail
          gi_loopw [46] (fun c wr => ∃ m : Nat, m ≤ regs ∧ c = .int .i64 m ∧ LvB w ib n regs x Bx w1.heap.size W0.heap.size W (lvT x P S m) wr) (fun c _ => regs - (intOf c).toNat)
          case atStart => exact ⟨0, Nat.zero_le _, rfl, HB2.out⟩
          case round =>
            obtain ⟨m2, hm2, rfl, hB3⟩ := hrel
            have HB3 := Lib.hid hB3
            by_cases hlt2 : m2 < regs
            · have k0 := hB3.box.cell
              have k1 := TRow.cell hB3.row hlt2
              have k2 := TRow.free hB3.row m2
              have k3 := hB3.ft
              have hlt3 : (m2 : Int) < (regs : Int) := by omega
              have HPut := Lib.hid (fun b => lvT_put (x := x) (P := P) (S := S) (m := m2) (b := b))
              have HCur := Lib.hid hB3
              have hlow := hB3.low
              have hbin := hB3.bin.cell
              have x5 := hB3.cx.c5
              simp only [Nat.zero_add] at x5
              clear hB3 hlt2
              obtain ⟨tb, hT⟩ : ∃ tb, fT x.op = tb := ⟨_, rfl⟩
              rw [hT] at k3
              obtain ⟨cb, hcur⟩ : ∃ cb, lvT x P S m2 m2 = cb := ⟨_, rfl⟩
              rw [hcur] at k1
              have HT := Lib.hid hT; have HC0 := Lib.hid hcur
              clear hT hcur
              cases cb
              · cases tb
                · have hT := HT.out; have hcur := HC0.out
                  have HE := Lib.hid (HPut.out false (by rw [hcur, hT]; rfl))
                  clear x5 hbin hlow HPut HCur hT hcur
                  gi_wp2_with fail
                  refine wpIn_region_tail_round 21 (by kernel_rfl) (by kernel_rfl) (fun ⟨_, _, h⟩ => h) (by kernel_rfl) ?_
                  simp only [List.take_succ_cons, List.take_zero, List.drop_succ_cons, List.drop_zero]
                  iterate 10 (refine still_step_h (fun K hK => ?_); go_simp; refine hK.out _ ?_; clear hK K)
                  iterate 8 (refine still_skip_h (by rfl) ?_; simp only [Act.put, List.setIfInBounds_toArray, List.set_cons_zero, List.set_cons_succ])
                  iterate 3 (refine still_step_h (fun K hK => ?_); go_simp; refine hK.out _ ?_; clear hK K)
                  refine still_nil_h ?_
                  go_wp2_with fail
                  gi_wp2_with fail
                  go_roundw
                  case rel => exact ⟨m2 + 1, by omega, by go_num, ((HB3.out.put m2 false).congr HE.out).below (below_drew1 (Below.refl _ _))⟩
                  case measure => simp [intOf]; omega
                · have hT := HT.out; have hcur := HC0.out
                  obtain ⟨ht0, ht1⟩ := HTo.out hT
                  obtain ⟨tn, htn⟩ : ∃ tn : Nat, x.to = tn := ⟨x.to.toNat, by omega⟩
                  rw [htn] at x5
                  have htl : (tn : Int) < (n : Int) := by omega
                  have hRw := HR.out.below hlow
                  have k4 := TRow.cell hRw.head (show tn < n by omega)
                  have k5 := TRow.cell (hRw.rows tn (by omega)) (show m2 < regs by omega)
                  have HE := Lib.hid (HPut.out (S tn m2) (by rw [hcur, hT, htn]; rfl))
                  clear hlow HPut HCur hRw htn ht0 ht1 hT hcur
                  gi_wp2_with fail
                  refine wpIn_region_tail_round 21 (by kernel_rfl) (by kernel_rfl) (fun ⟨_, _, h⟩ => h) (by kernel_rfl) ?_
                  simp only [List.take_succ_cons, List.take_zero, List.drop_succ_cons, List.drop_zero]
                  iterate 21 (refine still_step_h (fun K hK => ?_); go_simp; refine hK.out _ ?_; clear hK K)
                  refine still_nil_h ?_
                  go_wp2_with fail
                  gi_wp2_with fail
                  go_roundw
                  case rel => exact ⟨m2 + 1, by omega, by go_num, ((HB3.out.put m2 (S tn m2)).congr HE.out).below (below_drew1 (Below.refl _ _))⟩
                  case measure => simp [intOf]; omega
              · have hcur := HC0.out
                have HE := Lib.hid (HPut.out true (by rw [hcur]; rfl))
                clear x5 hbin hlow HPut HCur k3 hcur
                gi_wp2_with fail
                refine wpIn_region_tail_round 21 (by kernel_rfl) (by kernel_rfl) (fun ⟨_, _, h⟩ => h) (by kernel_rfl) ?_
                simp only [List.take_succ_cons, List.take_zero, List.drop_succ_cons, List.drop_zero]
                iterate 7 (refine still_step_h (fun K hK => ?_); go_simp; refine hK.out _ ?_; clear hK K)
                iterate 12 (refine still_skip_h (by rfl) ?_; simp only [Act.put, List.setIfInBounds_toArray, List.set_cons_zero, List.set_cons_succ])
                iterate 2 (refine still_step_h (fun K hK => ?_); go_simp; refine hK.out _ ?_; clear hK K)
                refine still_nil_h ?_
                go_wp2_with fail
                gi_wp2_with fail
                go_roundw
                case rel => exact ⟨m2 + 1, by omega, by go_num, ((HB3.out.put m2 true).congr HE.out).below (below_drew1 (Below.refl _ _))⟩
                case measure => simp [intOf]; omega
            · have hme2 : m2 = regs := by omega
              have HFin := Lib.hid (HEnd.out _ _ _ hB3 (fun r hr => lvT_end (by omega)))
              clear hB3 HB3
              gi_wp2_with fail
              exact HFin.out
  case done =>
    rintro D W hD hi hK
    have hbox := hi.box.cell
    have hrow := hi.row
    rw [Nat.sub_self, List.drop_zero] at hrow
    have HR2 := Lib.hid hrow; have HL := Lib.hid hi.low
    clear hrow hi
    gi_wp2
    refine ⟨by simp, .inl ⟨_, _, rfl, run_takeDeferred hK, ?_⟩⟩
    refine ⟨_, results_tmp rfl _ _ _, ⟨w.heap.size + 1, rfl, by omega, ?_⟩, HL.out.trans (belowK_b (w := w) (Nat.le_refl _) W D _ _ (by omega) hK rfl rfl)⟩
    exact TRow.turn HR2.out (Turn.put (B := 0) _ hK rfl (Nat.zero_le _))
  case stop =>
    rintro D c k W _ _ h _
    exact h.elim
end Go.Proofs.Ytjfpaelmcepidaa.PK
