/- Packed of several texts. -/
import Derived.Test.YtpdbokbmchlgpaaGreatK06
import Derived.Test.YtpdbokbmchlgpaaGreatK00
import Derived.Deep.OwnRows
import Derived.Deep.MidRow
import Derived.Maps.AppendAt
namespace Go.Proofs.YtpdbokbmchlgpaaGreat.PK
open Go.RowKit Go.Shelf
attribute [local go_sem] Oper.semAt_some

/-- The widths of the first k instructions. -/
def wdsI (ls : List (List Ins)) (k : Nat) : List Int := (ls.flatten.take k).map Ins.wd
theorem wdsI_next {F : Fun} {k : Nat} (h : k < sumI F.bs F.bs.length) : wdsI F.bs (k + 1) = wdsI F.bs k ++ [(xI F k).wd] := by
  have h4 := (locI_is F.bs k h).2.2.2
  unfold wdsI
  rw [List.take_add_one, h4, List.map_append]
  rfl
theorem wdsI_len {ls : List (List Ins)} {k : Nat} (h : k ≤ sumI ls ls.length) : (wdsI ls k).length = k := by
  have hf : ∀ m : List (List Ins), m.flatten.length = sumI m m.length := fun m => by
    induction m with
    | nil => rfl
    | cons l m ih => rw [List.flatten_cons, List.length_append, ih]; simp [sumI]
  unfold wdsI
  rw [List.length_map, List.length_take, hf]
  omega
theorem owns_slice {w : World} {B : Nat} {e : TypeId} {s n : Nat} {v : Value} {xs : List Value} (h : w.ownsRow B e s v n xs) : ∃ a cap, v = .slice a n cap := by
  rcases h.2 with ⟨rfl, rfl⟩ | ⟨g, cap, cur, rfl, _⟩
  · exact ⟨_, _, rfl⟩
  · exact ⟨_, _, rfl⟩
/-- A row of one's own is no block of another type. -/
theorem row_ne {W : World} {n₀ : Nat} {e : TypeId} {s k b : Nat} {v : Value} {xs : List Value} {cs : Array Value} {t : TypeId} {fz : Nat × Nat} (ho : W.ownsRow n₀ e s v k xs) (hb : W.heap[b]? = some (.cells cs t fz)) (hte : t ≠ e) : some b ≠ v.ownBlock := by
  rcases ho.2 with ⟨rfl, _⟩ | ⟨g, cap, cur, rfl, _, hgb, _⟩
  · simp [Value.ownBlock]
  · simp only [Value.ownBlock, ne_eq, Option.some.injEq]
    rintro rfl
    rw [hgb] at hb
    cases hb
    exact hte rfl
theorem funC_at {w : World} {b : Nat} {F : Fun} {A : FunA} (h : w.heap[b]? = some (.cells (funC F A) 25 (0, 0))) : w.cell? ⟨b, 0, none⟩ = some (.slice A.pa F.ps.length A.pc) ∧ w.cell? ⟨b, 1, none⟩ = some (.int .i64 F.ret) ∧ w.cell? ⟨b, 2, none⟩ = some (.slice A.sa F.sl.length A.sc) ∧ w.cell? ⟨b, 3, none⟩ = some (.slice A.ba F.bs.length A.bc) :=
  ⟨cell_of_row w b 0 _ _ _ h, cell_of_row w b 1 _ _ _ h, cell_of_row w b 2 _ _ _ h, cell_of_row w b 3 _ _ _ h⟩
/-- How things stand behind k rounds of a range that grows a row of numbers. -/
structure KnI (w w0 : World) (F : Fun) (A : FunA) (ob Bs : Nat) (xs : List Int) (W : World) : Prop where
  box : ∃ v, Boxed W ob 22 v ∧ W.ownsRow w.heap.size 3 1 v xs.length (encI xs)
  fn : W.heap[Bs]? = some (.cells (funC F A) 25 (0, 0))
  low : Below w.heap.size w W
  big : w0.heap.size ≤ W.heap.size
theorem KnI.turn {w w0 : World} {F : Fun} {A : FunA} {ob Bs B : Nat} {xs : List Int} {W W' : World} (h : KnI w w0 F A ob Bs xs W) (ht : Turn B W W') (hq : w.heap.size ≤ B) (hB : w.heap.size ≤ w0.heap.size) : KnI w w0 F A ob Bs xs W' := by
  obtain ⟨⟨v, h1, h2⟩, h3, h4, h5⟩ := h
  exact ⟨⟨v, ht.boxed h1, ht.owns h2⟩, ht.heap h3, ht.below h4 hq (by omega), Nat.le_trans h5 ht.size⟩
set_option maxRecDepth 100000 in
set_option maxHeartbeats 4000000 in
theorem kinds_any (F : Fun) (A : FunA) (E : Nat → Nat → InsA) (w : World) (hE : BksIn w A.ba F.bs E) (hp : IntsIn w A.pa F.ps) (hbl : F.bs.length ≤ 1000) (hbn : ∀ k, k < F.bs.length → (atBk F.bs k).length ≤ 1000) (hpl : F.ps.length ≤ 1000) :
    Calls Tryz.prog 61 #[funV F A] w fun e w' => (∃ v, e = .returned v ∧ w'.ownsRow w.heap.size 3 1 v (F.ps.length + sumI F.bs F.bs.length) (encI (F.ps ++ wdsI F.bs (sumI F.bs F.bs.length)))) ∧ Below w.heap.size w w' := by
  have hal : Below w.heap.size w (w.alloc (.cells #[.slice A.pa F.ps.length A.pc, .int .i64 F.ret, .slice A.sa F.sl.length A.sc, .slice A.ba F.bs.length A.bc] 25)) := (Below.refl _ _).alloc (Nat.le_refl _) _
  have HCl := Lib.hid (cloneI_any F.ps A.pa A.pc _ (hp.below hal) (by omega))
  have HAl := Lib.hid (all_any F A)
  have HE := Lib.hid hE
  have hr0 : (w.alloc (.cells #[.slice A.pa F.ps.length A.pc, .int .i64 F.ret, .slice A.sa F.sl.length A.sc, .slice A.ba F.bs.length A.bc] 25)).heap[w.heap.size]? = some (.cells (funC F A) 25 (0, 0)) := heap_alloc_new _ _
  obtain ⟨g0, g1, g2, g3⟩ := funC_at hr0
  have HB0 := Lib.hid hal; have HR0 := Lib.hid hr0
  have hsum : sumI F.bs F.bs.length ≤ 1000000 := by have := sumI_le 1000 hbn F.bs.length (Nat.le_refl _); have : F.bs.length * 1000 ≤ 1000 * 1000 := Nat.mul_le_mul_right _ hbl; omega
  have HSum := Lib.hid hsum
  simp only [funV, funC] at HAl ⊢
  clear hE hp hal hr0 hsum
  obtain ⟨i0, hi, hz0, hz1, hz2⟩ := info_parts Tryz.infoInt
  refine (callsIn_wide (n := 3)).1 ?_
  refine callsIn_of_wp_marks Tryz.func61 rfl trivial ?_ rfl
  simp only [Tryz.ntmps61, List.size_toArray, List.length_cons, List.length_nil, Nat.reduceAdd, Nat.reduceSub, Array.replicate_succ, Array.replicate_zero, List.push_toArray, List.append_toArray, List.nil_append, List.cons_append]
  gi_wp2_with fail
  refine ⟨trivial, ?_⟩
  refine (callsIn_wide.2 HCl.out).mono ?_; rintro e w2 ⟨⟨v, rfl, ho⟩, hb2⟩
  have d0 := keep g0 hb2; have d1 := keep g1 hb2; have d2 := keep g2 hb2; have d3 := keep g3 hb2
  have HB2 := Lib.hid (HB0.out.trans (hb2.mono HB0.out.size))
  have HO2 := Lib.hid (owns_base ho HB0.out.size)
  obtain ⟨sa, sc, rfl⟩ := owns_slice ho
  have hl2 := block_lt_of_cell d0
  have hl3 : w.heap.size ≠ w2.heap.size := Nat.ne_of_lt hl2
  clear ho hb2 HCl g0 g1 g2 g3
  gi_wp2_with fail
  refine ⟨trivial, ?_⟩
  refine (callsIn_wide.2 (HAl.out _)).mono ?_; rintro e w4 ⟨rfl, rfl⟩
  gi_wp2_with fail
  have hbx : Boxed ((w2.alloc (.cells #[.slice sa F.ps.length sc] 22)).alloc (.cells (funC F A) 25)) w2.heap.size 22 (.slice sa F.ps.length sc) := (Boxed.new w2 _ _).alloc _
  have hfn : ((w2.alloc (.cells #[.slice sa F.ps.length sc] 22)).alloc (.cells (funC F A) 25)).heap[w2.heap.size + 1]? = some (.cells (funC F A) 25 (0, 0)) := by
    have := heap_alloc_new (w2.alloc (.cells #[.slice sa F.ps.length sc] 22)) (.cells (funC F A) 25)
    simpa using this
  have hb4 : Below w2.heap.size w2 ((w2.alloc (.cells #[.slice sa F.ps.length sc] 22)).alloc (.cells (funC F A) 25)) := ((Below.refl _ _).alloc (Nat.le_refl _) _).alloc (by simp) _
  have hown := owns_below HO2.out hb4
  have hlow := HB2.out.trans (hb4.mono HB2.out.size)
  have hz4 : w2.heap.size + 1 < ((w2.alloc (.cells #[.slice sa F.ps.length sc] 22)).alloc (.cells (funC F A) 25)).heap.size := by simp
  obtain ⟨g0, g1, g2, g3⟩ := funC_at hfn
  simp only [funC] at hbx hfn hb4 hown hlow hz4 g0 g3
  clear d0 d1 d2 d3 hb4 g1 g2
  generalize hW0 : (w2.alloc _).alloc _ = W0 at hbx hfn hown hlow hz4 g0 g3 ⊢
  clear hW0
  generalize hob : w2.heap.size = ob at *
  have hwo : w.heap.size < ob := hl2
  have HLow := Lib.hid hlow
  refine range_all (p := 10) (s := 4) F A E (ob + 1) rfl hbl hbn hpl w hlow HE.out hz4 g0 g3 (fun k W => KnI w W0 F A ob (ob + 1) (F.ps ++ wdsI F.bs k) W) (fun _ _ _ => False)
    (fun k A' A'' ht h => h.turn ht hlow.size hlow.size) (fun _ _ _ _ _ h => h) ⟨⟨_, hbx, by simpa [wdsI] using hown⟩, hfn, hlow, Nat.le_refl _⟩ (fun k W h => h.big) ?assign ?body ?done ?stop
  case assign =>
    intro l k W K hK
    gi_wp2
    exact hK
  case body =>
    intro l k W Bx hl hkn hk hBx hx
    obtain ⟨⟨v, hv, hrow⟩, hfnW, hlo, hbig⟩ := hkn
    have hc := hv.cell
    have x1 := hx.cell.2.1
    have hln : (F.ps ++ wdsI F.bs k).length ≤ 2000000 := by rw [List.length_append, wdsI_len (Nat.le_of_lt hk)]; have := HSum.out; omega
    have HNx := Lib.hid (wdsI_next hk)
    have HX := Lib.hid hx
    clear hx
    generalize hxs : F.ps ++ wdsI F.bs k = xs at *
    have hnx : F.ps ++ wdsI F.bs (k + 1) = xs ++ [(xI F k).wd] := by rw [HNx.out, ← hxs, List.append_assoc]
    have HNx2 := Lib.hid hnx
    clear hnx hxs
    have hzW := hlo.size
    gi_wp2_with (gi_at_builtin; refine wpListIn_append_own _ rfl _ _ 22 rfl w.heap.size 3 i0 (.int .i64 0) 1 8 Tryz.underlying22 hi hz0 hz1 hz2 rfl (by decide) _ _ _ rfl (hrow.alloc _) ⟨W.heap.size, 0, none⟩ 1 1 [.int .i64 (xI F k).wd] rfl rfl (cell_one_new _ _ _) (by simp [Value.oneCell']) (by unfold maxLen; omega) (by omega) (by simp; omega) ?_; intro v' w1 hown' hgrow _; obtain ⟨g', cap', rfl⟩ := ownsRow_succ hown'; obtain ⟨hv1, hv2, hr2, hk2, hb2⟩ := hv.appended (by decide) hrow hzW (Nat.le_of_lt hwo) hown' hgrow; have hc1 := hv1.cell; have hf1 := hv1.frozen)
    have hsame : (w1.setCell ⟨ob, 0, none⟩ (.slice (some ⟨g', 0, none⟩) (xs.length + 1) cap')).heap[ob + 1]? = W.heap[ob + 1]? := by
      rw [Below.heap_setCell _ _ _ _ (by show ob + 1 ≠ ob; omega), hgrow.block _ (by simp; have := lt_of_block hfnW; omega) (row_ne hrow hfnW (by decide)), Below.heap_alloc W _ _ (lt_of_block hfnW)]
    refine ⟨hk2.from _, ⟨hb2, hsame⟩, ⟨_, hv2, ?_⟩, hsame.trans hfnW, hlo.trans hb2, Nat.le_trans hbig ?_⟩
    · rw [HNx2.out, List.length_append, encI_snoc]; exact hr2
    · have := hgrow.size; simp at this; simp; omega
  case done =>
    intro D W hD hkn hK
    obtain ⟨⟨v, hv, hrow⟩, _, hlo, _⟩ := hkn
    have hc := hv.cell
    have hln : (F.ps ++ wdsI F.bs (sumI F.bs F.bs.length)).length = F.ps.length + sumI F.bs F.bs.length := by rw [List.length_append, wdsI_len (Nat.le_refl _)]
    rw [hln] at hrow
    have hDz := HLow.out.size
    gi_wp2
    refine ⟨by simp, .inl ⟨_, _, rfl, run_takeDeferred hK, ?_⟩⟩
    exact ⟨_, results_tmp rfl _ _ _, ⟨v, rfl, ownsRow_putObj hrow _ hK rfl⟩, hlo.trans (belowK_b (w := w) (Nat.le_refl _) W D _ _ (by omega) hK rfl rfl)⟩
  case stop =>
    intro D c k W _ _ h _
    exact h.elim
end Go.Proofs.YtpdbokbmchlgpaaGreat.PK
namespace Go.Proofs.YtpdbokbmchlgpaaGreat.PK
open Go.RowKit

/-- The cells of a slice are slices of these numbers. -/
def RowsIn (w : World) (a : Option Addr) (g : List (List Int)) : Prop :=
  ∀ k, k < g.length → ∃ b off a' cap, a = some ⟨b, off, none⟩ ∧ w.cell? ⟨b, off + k, none⟩ = some (.slice a' (g.getD k []).length cap) ∧ IntsIn w a' (g.getD k [])
theorem RowsIn.below {w w' : World} {a : Option Addr} {g : List (List Int)} (h : RowsIn w a g) (hb : Below w.heap.size w w') : RowsIn w' a g := fun k hk => by
  obtain ⟨b, off, a', cap, rfl, hc, hi⟩ := h k hk
  exact ⟨b, off, a', cap, rfl, keep hc hb, hi.below hb⟩
structure Save (q : Nat) (w w' : World) : Prop where
  os : w'.os = w.os
  tape : w'.tape = w.tape
  output : w'.output = w.output
  size : w.heap.size ≤ w'.heap.size
  block : ∀ k, k < w.heap.size → k ≠ q → w'.heap[k]? = w.heap[k]?
theorem Save.refl (q : Nat) (w : World) : Save q w w := ⟨rfl, rfl, rfl, Nat.le_refl _, fun _ _ _ => rfl⟩
theorem Save.trans {q : Nat} {a b c : World} (h : Save q a b) (k : Save q b c) : Save q a c :=
  ⟨k.os.trans h.os, k.tape.trans h.tape, k.output.trans h.output, Nat.le_trans h.size k.size, fun i hi hq => (k.block i (Nat.lt_of_lt_of_le hi h.size) hq).trans (h.block i hi hq)⟩
theorem Save.of_below {q : Nat} {w w' : World} (h : Below w.heap.size w w') : Save q w w' := ⟨h.os, h.tape, h.output, h.size, fun k hk _ => h.block k hk⟩
theorem Save.set (q v : Nat) (w : World) (x : Value) : Save q w (w.setCell ⟨q, v, none⟩ x) :=
  ⟨rfl, rfl, rfl, by simp [World.setCell], fun k _ hk => Below.heap_setCell _ _ _ _ hk⟩
theorem Save.below {q : Nat} {w w' : World} (h : Save q w w') {B : Nat} (hq : B ≤ q) (hB : B ≤ w.heap.size) : Below B w w' :=
  ⟨h.os, h.tape, h.output, h.size, fun k hk => h.block k (by omega) (by omega)⟩
theorem Save.cell {q : Nat} {w w' : World} (h : Save q w w') {b k : Nat} {v : Value} (hb : b ≠ q) (hc : w.cell? ⟨b, k, none⟩ = some v) : w'.cell? ⟨b, k, none⟩ = some v := by
  rw [World.cell?_of_block (w := w) (h.block b (block_lt_of_cell hc) hb)]; exact hc
def valArr (n : Nat) (f : Nat → Value) : Array Value := (Array.range n).map f
theorem valArr_get (n : Nat) (f : Nat → Value) (k : Nat) (h : k < n) : (valArr n f)[k]? = some (f k) := by
  simp [valArr, h]
def upd (f : Nat → Value) (v : Nat) (x : Value) : Nat → Value := fun j => if j = v then x else f j
theorem valArr_set (n : Nat) (f : Nat → Value) (v : Nat) (x : Value) : (valArr n f).setIfInBounds v x = valArr n (upd f v x) := by
  apply Array.ext
  · simp [valArr]
  · intro i h1 h2
    have hi : i < n := by simpa [valArr] using h2
    rw [Array.getElem_setIfInBounds (by simpa [valArr] using hi)]
    by_cases c : v = i
    · subst c; simp [valArr, upd]
    · have c' : ¬ i = v := fun e => c e.symm
      simp [valArr, upd, c, c']
theorem valArr_made (n : Nat) (x : Value) : madeCells #[x] n = valArr n (fun _ => x) := by
  unfold madeCells valArr
  congr 1
  funext j
  simp [Nat.mod_one]
/-- A block that is a row of n values. -/
def VRow (w : World) (q n : Nat) (f : Nat → Value) : Prop := w.heap[q]? = some (.cells (valArr n f) 22 (0, 0))
theorem VRow.cell {w : World} {q n : Nat} {f : Nat → Value} (h : VRow w q n f) {k : Nat} (hk : k < n) : w.cell? ⟨q, k, none⟩ = some (f k) := by
  rw [cell_of_row w q k _ _ _ h]; exact valArr_get n f k hk
theorem VRow.free {w : World} {q n : Nat} {f : Nat → Value} (h : VRow w q n f) (k : Nat) : w.frozen? ⟨q, k, none⟩ = false := frozen_of_row w q k _ _ h
theorem VRow.lt {w : World} {q n : Nat} {f : Nat → Value} (h : VRow w q n f) : q < w.heap.size := lt_of_block h
theorem VRow.set {w : World} {q n : Nat} {f : Nat → Value} (h : VRow w q n f) (v : Nat) (x : Value) : VRow (w.setCell ⟨q, v, none⟩ x) q n (upd f v x) := by
  unfold VRow
  rw [heap_setCell_same w q v _ _ _ h, valArr_set n f v x]
theorem VRow.below {w w' : World} {q n : Nat} {f : Nat → Value} (h : VRow w q n f) {B : Nat} (hb : Below B w w') (hq : q < B) : VRow w' q n f := by
  unfold VRow; rw [hb.block q hq]; exact h
theorem VRow.alloc {w : World} {q n : Nat} {f : Nat → Value} (h : VRow w q n f) (o : Obj) : VRow (w.alloc o) q n f := by
  unfold VRow; rw [heap_past _ _ _ h.lt]; exact h
theorem VRow.grown {w w' : World} {q n : Nat} {f : Nat → Value} {row : Option Nat} (h : VRow w q n f) (hg : w.grownBy w' row) (hr : ∀ k, row = some k → q < k) : VRow w' q n f := by
  unfold VRow; rw [hg.block q h.lt (fun e => by have := hr q e.symm; omega)]; exact h
theorem infoRowI : (Tryz.prog.info? 22).map (fun i => (i.zero, i.size, i.bytes)) = some (some (.slice none 0 0), 1, 24) := by kernel_rfl

/-- A made row that does not lie in the block q. -/
def RowAt (w : World) (q : Nat) (v : Value) (xs : List Int) : Prop := ∃ a cap, v = .slice a xs.length cap ∧ IntsIn w a xs ∧ ∀ b off, a = some ⟨b, off, none⟩ → b ≠ q
def RowsSl (w : World) (v : Value) (L : List (List Int)) : Prop := ∃ a cap, v = .slice a L.length cap ∧ RowsIn w a L
theorem RowsSl.nil (w : World) : RowsSl w (.slice none 0 0) [] := ⟨none, 0, rfl, fun _ hk => absurd hk (Nat.not_lt_zero _)⟩
theorem save_grown {q : Nat} {a b w3 : World} {row : Option Nat} {o : Obj} (h : Save q a b) (hg : (b.alloc o).grownBy w3 row) (hr : ∀ k, row = some k → a.heap.size ≤ k) : Save q a w3 := by
  refine ⟨hg.os.trans h.os, hg.tape.trans h.tape, hg.output.trans h.output, Nat.le_trans h.size (Nat.le_trans (by simp) hg.size), fun k hk hq => ?_⟩
  have hkb : k < b.heap.size := Nat.lt_of_lt_of_le hk h.size
  rw [hg.block k (by simp; omega) (fun e => by have := hr k e.symm; omega), heap_past _ _ _ hkb]
  exact h.block k hk hq
end Go.Proofs.YtpdbokbmchlgpaaGreat.PK
namespace Go.Proofs.YtpdbokbmchlgpaaGreat.PK
open Go.RowKit

theorem cellOf {W W' : World} {b off : Nat} {v : Value} (h : W.cell? ⟨b, off, none⟩ = some v) (hk : W'.heap[b]? = W.heap[b]?) : W'.cell? ⟨b, off, none⟩ = some v := by
  rw [World.cell?_of_block (w := W) hk]; exact h
theorem cell_kept {w w' : World} {b off : Nat} {v : Value} {row : Option Nat} (h : w.cell? ⟨b, off, none⟩ = some v) (hg : w.grownBy w' row) (hne : some b ≠ row) : w'.cell? ⟨b, off, none⟩ = some v := by
  have e := hg.block b (block_lt_of_cell h) hne
  unfold World.cell? at *
  rw [e]; exact h
/-- The values of a row are these rows of numbers, and lie in other blocks. -/
def RowsAre (w : World) (base : Nat) (row : Option Nat) (L : List (List Int)) (vals : List Value) : Prop :=
  ∀ k, k < L.length → ∃ a cap, vals[k]? = some (.slice a (L.getD k []).length cap) ∧ (L.getD k []).length ≤ cap ∧ (a = none → cap = 0) ∧ IntsIn w a (L.getD k []) ∧ ∀ b off, a = some ⟨b, off, none⟩ → base ≤ b ∧ b < w.heap.size ∧ some b ≠ row
/-- Rows of numbers in a row of the call's own. -/
def RowsOwn (w : World) (base : Nat) (v : Value) (L : List (List Int)) : Prop := ∃ vals, w.ownsRow base 22 1 v L.length vals ∧ RowsAre w base v.ownBlock L vals
theorem RowsOwn.nil (w : World) (base : Nat) : RowsOwn w base (.slice none 0 0) [] := ⟨[], owns_nil _ _ _ _, fun _ hk => absurd hk (Nat.not_lt_zero _)⟩
theorem RowsOwn.shape {w : World} {base : Nat} {v : Value} {L : List (List Int)} (h : RowsOwn w base v L) : ∃ a cap, v = .slice a L.length cap := by
  obtain ⟨vals, ho, _⟩ := h
  exact owns_shape ho
theorem RowsAre.below {w w' : World} {base : Nat} {row : Option Nat} {L : List (List Int)} {vals : List Value} (h : RowsAre w base row L vals) (hb : Below w.heap.size w w') : RowsAre w' base row L vals := fun k hk => by
  obtain ⟨a, cap, h1, h2, h0, h3, h4⟩ := h k hk
  exact ⟨a, cap, h1, h2, h0, h3.below hb, fun b off e => ⟨(h4 b off e).1, Nat.lt_of_lt_of_le (h4 b off e).2.1 hb.size, (h4 b off e).2.2⟩⟩
theorem RowsOwn.below {w w' : World} {base : Nat} {v : Value} {L : List (List Int)} (h : RowsOwn w base v L) (hb : Below w.heap.size w w') : RowsOwn w' base v L := by
  obtain ⟨vals, ho, hr⟩ := h
  exact ⟨vals, owns_below ho hb, hr.below hb⟩
theorem RowsOwn.base {w : World} {base base' : Nat} {v : Value} {L : List (List Int)} (h : RowsOwn w base v L) (hb : base' ≤ base) : RowsOwn w base' v L := by
  obtain ⟨vals, ho, hr⟩ := h
  refine ⟨vals, owns_base ho hb, fun k hk => ?_⟩
  obtain ⟨a, cap, h1, h2, h0, h3, h4⟩ := hr k hk
  exact ⟨a, cap, h1, h2, h0, h3, fun b off e => ⟨Nat.le_trans hb (h4 b off e).1, (h4 b off e).2⟩⟩
/-- The same rows, with the blocks between which they lie. -/
def RowsBet (w : World) (lo hi : Nat) (v : Value) (L : List (List Int)) : Prop :=
  ∀ k, k < L.length → ∃ g c a cap, v = .slice (some ⟨g, 0, none⟩) L.length c ∧ lo ≤ g ∧ g < hi ∧ w.cell? ⟨g, k, none⟩ = some (.slice a (L.getD k []).length cap) ∧ (L.getD k []).length ≤ cap ∧ (a = none → cap = 0) ∧ IntsIn w a (L.getD k []) ∧ ∀ b off, a = some ⟨b, off, none⟩ → lo ≤ b ∧ b < hi
theorem RowsOwn.bet {w : World} {base : Nat} {v : Value} {L : List (List Int)} (h : RowsOwn w base v L) : RowsBet w base w.heap.size v L := fun k hk => by
  obtain ⟨vals, ho, hr⟩ := h
  obtain ⟨a, cap, h1, h2, h0, h3, h4⟩ := hr k hk
  obtain ⟨g, c, rfl, _, _, hg, hg2, hc, _⟩ := owns_cells ho (by omega)
  exact ⟨g, c, a, cap, rfl, hg, hg2, hc _ _ h1, h2, h0, h3, fun b off e => ⟨(h4 b off e).1, (h4 b off e).2.1⟩⟩
theorem RowsBet.keep {w w' : World} {lo hi : Nat} {v : Value} {L : List (List Int)} (h : RowsBet w lo hi v L) (hk : ∀ b, lo ≤ b → b < hi → w'.heap[b]? = w.heap[b]?) : RowsBet w' lo hi v L := fun k hkl => by
  obtain ⟨g, c, a, cap, e, h1, h2, h3, h4, h0, h5, h6⟩ := h k hkl
  refine ⟨g, c, a, cap, e, h1, h2, cellOf h3 (hk g h1 h2), h4, h0, fun j hj => ?_, h6⟩
  obtain ⟨b, off, rfl, hc⟩ := h5 j hj
  obtain ⟨h7, h8⟩ := h6 b off rfl
  exact ⟨b, off, rfl, cellOf hc (hk b h7 h8)⟩
/-- One row more. -/
theorem RowsOwn.snoc {w w' : World} {base : Nat} {v v' : Value} {L : List (List Int)} {a : Option Addr} {cap : Nat} {xs : List Int} {vals : List Value} (hl : vals.length = L.length) (h : RowsAre w base v.ownBlock L vals) (ho : w'.ownsRow base 22 1 v' (L.length + 1) (vals ++ [.slice a xs.length cap])) (hg : w.grownBy w' v.ownBlock)
    (hat : v'.ownBlock = v.ownBlock ∨ v'.ownBlock = some w.heap.size) (hx : IntsIn w a xs) (hcap : xs.length ≤ cap) (h0 : a = none → cap = 0) (hxb : ∀ b off, a = some ⟨b, off, none⟩ → base ≤ b ∧ b < w.heap.size ∧ some b ≠ v.ownBlock) : RowsOwn w' base v' (L ++ [xs]) := by
  have hkeep : ∀ (b : Option Addr) (ys : List Int), IntsIn w b ys → (∀ c off, b = some ⟨c, off, none⟩ → base ≤ c ∧ c < w.heap.size ∧ some c ≠ v.ownBlock) → IntsIn w' b ys := fun b ys hi hb k hk => by
    obtain ⟨c, off, rfl, hc⟩ := hi k hk
    exact ⟨c, off, rfl, cell_kept hc hg (hb c off rfl).2.2⟩
  have hnew : ∀ c, base ≤ c ∧ c < w.heap.size ∧ some c ≠ v.ownBlock → base ≤ c ∧ c < w'.heap.size ∧ some c ≠ v'.ownBlock := fun c ⟨h3, h1, h2⟩ => ⟨h3, Nat.lt_of_lt_of_le h1 hg.size, fun e => by
    rcases hat with h3 | h3
    · rw [h3] at e; exact h2 e
    · rw [h3] at e; cases e; omega⟩
  refine ⟨vals ++ [.slice a xs.length cap], by rw [List.length_append]; exact ho, fun k hk => ?_⟩
  rw [List.length_append, List.length_singleton] at hk
  by_cases e : k < L.length
  · obtain ⟨b, c, h1, h2, h00, h3, h4⟩ := h k e
    have el : (L ++ [xs]).getD k [] = L.getD k [] := by rw [List.getD_eq_getElem?_getD, List.getD_eq_getElem?_getD, List.getElem?_append_left e]
    rw [el]
    refine ⟨b, c, ?_, h2, h00, hkeep b _ h3 h4, fun d off ed => hnew d (h4 d off ed)⟩
    rw [List.getElem?_append_left (by rw [hl]; exact e)]; exact h1
  · obtain rfl : k = L.length := by omega
    have el : (L ++ [xs]).getD L.length [] = xs := by simp [List.getD_eq_getElem?_getD]
    rw [el]
    refine ⟨a, cap, ?_, hcap, h0, hkeep a xs hx hxb, fun c off ec => hnew c (hxb c off ec)⟩
    rw [← hl, List.getElem?_append_right (Nat.le_refl _)]
    simp
theorem RowsOwn.rows {w : World} {base : Nat} {v : Value} {L : List (List Int)} (h : RowsOwn w base v L) : ∃ a cap, v = .slice a L.length cap ∧ RowsIn w a L := by
  obtain ⟨a, cap, rfl⟩ := h.shape
  refine ⟨a, cap, rfl, fun k hk => ?_⟩
  obtain ⟨g, c, a', cap', e, _, _, hc, _, _, h3, _⟩ := h.bet k hk
  cases e
  exact ⟨g, 0, a', cap', rfl, by rw [Nat.zero_add]; exact hc, h3⟩
/-- One row more, that lies in a block of its own behind the world wr. -/
theorem RowsOwn.snoc_own {wr ws w9 : World} {v9 : Value} {base : Nat} {oa : Option Addr} {oc vc : Nat} {va : Option Addr} {L : List (List Int)} {f : List Int} {vals : List Value} {o : Obj}
    (hov : ws.ownsRow base 22 1 (.slice oa L.length oc) L.length vals) (hra : RowsAre ws base (Value.slice oa L.length oc).ownBlock L vals) (hgo : ∀ g, (Value.slice oa L.length oc).ownBlock = some g → g < wr.heap.size) (hbw : base ≤ wr.heap.size)
    (hown : ws.ownsRow wr.heap.size 3 1 (.slice va f.length vc) f.length (encI f)) (h9 : w9.ownsRow base 22 1 v9 (L.length + 1) (vals ++ [.slice va f.length vc])) (hg : (ws.alloc o).grownBy w9 (Value.slice oa L.length oc).ownBlock)
    (hat : v9.ownBlock = (Value.slice oa L.length oc).ownBlock ∨ v9.ownBlock = some (ws.alloc o).heap.size) : RowsOwn w9 base v9 (L ++ [f]) := by
  obtain ⟨va', vc', e', hvc, hvi⟩ := ints_of_owns hown
  cases e'
  have hb6 : Below ws.heap.size ws (ws.alloc o) := (Below.refl ws.heap.size ws).alloc (Nat.le_refl _) o
  refine RowsOwn.snoc (xs := f) (by have := hov.1; omega) (hra.below hb6) h9 hg hat (hvi.below hb6) hvc (fun e => by
    subst e
    obtain ⟨_, ⟨e2, _⟩ | ⟨g, c, cur, e2, _⟩⟩ := hown
    · exact (Value.slice.inj e2).2.2
    · cases e2) (fun b' o' e => by
    subst e
    have h1 : wr.heap.size ≤ b' ∧ b' < ws.heap.size := owns_block hown rfl
    refine ⟨by omega, by simp; omega, fun e2 => ?_⟩
    have := hgo b' e2.symm
    omega)
end Go.Proofs.YtpdbokbmchlgpaaGreat.PK
