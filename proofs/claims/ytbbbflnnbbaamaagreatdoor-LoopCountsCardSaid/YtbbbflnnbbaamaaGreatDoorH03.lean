/- Packed of several texts. -/
import Derived.Test.YtbbbflnnbbaamaaGreatDoorH02
import Derived.Laws.Tables
import Derived.Laws.CopyRow
namespace Go.Proofs.YtbbbflnnbbaamaaGreatDoor.Mini
open Go.RowKit

variable {P : Program} {B : Nat}
theorem not_fail {H : Heap} {c : Nat} {l : Log} {out : MV × Heap × Nat × Log} (h : run .fail H c l = some out) : False := by simp [run] at h
def Got (k : MV → Prg) (out : MV × Heap × Nat × Log) (S : MV → Heap → Prop) : Prop := ∃ m H' c' l', run (k m) H' c' l' = some out ∧ S m H'
theorem Got.mono {k : MV → Prg} {out : MV × Heap × Nat × Log} {S S' : MV → Heap → Prop} (h : Got k out S) (hs : ∀ m H', S m H' → S' m H') : Got k out S' :=
 let ⟨m, H', c', l', h1, h2⟩ := h; ⟨m, H', c', l', h1, hs _ _ h2⟩
def Post (B : Nat) (x : Env) (H' : Heap) (m : MV) (w : World) (v : Value) (w' : World) : Prop := ∃ y, x.le y ∧ Rel B y H' w' ∧ Rnd y m v ∧ Below B w w'
theorem Post.still {x : Env} {H : Heap} {w : World} {m : MV} {v : Value} (h : Rel B x H w) (hm : Rnd x m v) : Post B x H m w v w := ⟨x, Env.le_refl x, h, hm, Below.refl B w⟩
theorem ble_le {a b : Nat} (h : Nat.ble a b = true) : a ≤ b := Nat.le_of_ble_eq_true h
theorem beq_eq {a b : Nat} (h : Nat.beq a b = true) : a = b := Nat.eq_of_beq_eq_true h

/-! ### What asks nothing of the world -/
theorem pureP_run {α : Type} : ∀ (s : Sem α) (r : α), pureP P s = some r → ∀ w, s.run P w = .ok r w := by
 intro s
 induction s with
 | pure a => intro r h w; simp only [pureP, Option.some.injEq] at h; subst h; rfl
 | program k ih => intro r h w; simp only [pureP] at h; exact ih P r h w
 | _ => intro r h; simp [pureP] at h
theorem pureK_got {s : Sem Value} {k : MV → Prg} {H : Heap} {c : Nat} {l : Log} {out : MV × Heap × Nat × Log} (h : run (pureK P s k) H c l = some out) : Got k out fun m H' => H' = H ∧ ∃ r, m = .v r ∧ ∀ w, s.run P w = .ok r w := by
 unfold pureK at h
 split at h
 ·rename_i r hr
  rw [forceV_eq] at h
  exact ⟨_, _, _, _, h, rfl, r, rfl, pureP_run s r hr⟩
 ·exact (not_fail h).elim

/-! ### Rows -/
theorem new_got {ty esz size : Nat} {opn : Bool} {cells zero : List MV} {k : Nat → Prg} {H : Heap} {c : Nat} {l : Log} {out : MV × Heap × Nat × Log} (h : run (newRow ty esz size opn cells zero k) H c l = some out) :
  cells.all MV.leaf = true ∧ zero.all MV.leaf = true ∧ size < far ∧ H.get c = none ∧ c < far ∧ ∃ l', run (k c) (H.set c (.live ⟨ty, esz, size, opn, Fill .nil 0 cells, zero⟩)) (c + 1) l' = some out := by
 unfold newRow at h
 split at h
 ·rename_i h1 h2
  rw [Bool.and_eq_true] at h1
  rw [fillK_fill] at h
  unfold run at h
  split at h
  ·rename_i h3 h4
   simp only [setK_set, forceN_eq] at h
   exact ⟨h1.1, h1.2, near_of_ble h2, h3, near_of_ble h4, _, h⟩
  ·cases h
 ·exact (not_fail h).elim
theorem cell_filled {ty esz size : Nat} {opn : Bool} {cells zero : List MV} (hc : cells.length ≤ far) {i : Nat} (hi : i < cells.length) : ∃ m, cells[i]? = some m ∧ (Row.mk ty esz size opn (Fill .nil 0 cells) zero).cell i = m := by
 refine ⟨cells[i], List.getElem?_eq_getElem hi, ?_⟩
 unfold Row.cell
 dsimp only
 rw [get_fill _ _ _ _ (by omega), if_pos (by omega), Nat.sub_zero, List.getElem?_eq_getElem hi]
 rfl
theorem cells_rel {x : Env} {ty esz : Nat} {opn : Bool} {cells zero : List MV} {vs : List Value} (hv : Rnds x cells vs) (hl : cells.all MV.leaf = true) (hc : cells.length ≤ far) (extra : Array Value) (i : Nat) (hi : i < cells.length) :
  ∃ v, (vs.toArray ++ extra)[i]? = some v ∧ Rnd x ((Row.mk ty esz cells.length opn (Fill .nil 0 cells) zero).cell i) v ∧ v.oneCell' = true := by
 obtain ⟨m, h1, h2⟩ := cell_filled (ty := ty) (esz := esz) (size := cells.length) (opn := opn) (zero := zero) hc hi
 obtain ⟨v, h3, h4⟩ := hv.get i m h1
 refine ⟨v, ?_, by rw [h2]; exact h4, hv.leaf hl v (List.mem_of_getElem? h3)⟩
 have hi2 : i < vs.length := by rw [← hv.length]; exact hi
 rw [Array.getElem?_append_left (by simpa using hi2)]
 simpa using h3
theorem Rel.alloc {x : Env} {H : Heap} {w : World} (h : Rel B x H w) {c : Nat} (hc : H.get c = none) (hf : c < far) {ty esz : Nat} {opn : Bool} {cells zero : List MV} {vs : List Value} (hv : Rnds x cells vs) (hl : cells.all MV.leaf = true) (hs : cells.length < far) (extra : Array Value) (k : Nat) (ho : opn = true → k * esz ≤ vs.length + extra.size) :
  ∃ y, x.le y ∧ y c = some ⟨w.heap.size, 0, k⟩ ∧ Rel B y (H.set c (.live ⟨ty, esz, cells.length, opn, Fill .nil 0 cells, zero⟩)) (w.alloc (.cells (vs.toArray ++ extra) ty)) :=
 h.new hc hf (heap_alloc_new w _) (fun k hk => Below.heap_alloc w _ k hk) k (fun e => by simpa using ho e) (Nat.le_of_lt hs) (fun i hi => cells_rel hv hl (Nat.le_of_lt hs) extra i hi)
theorem boxK_got {t : TypeId} {cells : List MV} {k : MV → Prg} {H : Heap} {c : Nat} {l : Log} {out : MV × Heap × Nat × Log} (h : run (boxK t cells k) H c l = some out) :
  Got k out fun m H' => ∀ x w vs, Rel B x H w → Rnds x cells vs → Post B x H' m w (.pointer (some ⟨w.heap.size, 0, none⟩)) (w.alloc (.cells vs.toArray t)) := by
 unfold boxK at h
 rw [forceN_eq] at h
 obtain ⟨h1, _, h3, h4, h5, l', h6⟩ := new_got h
 refine ⟨_, _, _, _, h6, fun x w vs hR hv => ?_⟩
 obtain ⟨y, g1, g2, g3⟩ := hR.alloc (ty := t) (esz := cells.length) (opn := false) (zero := []) h4 h5 hv h1 h3 #[] 0 (fun e => by cases e)
 rw [Array.append_empty] at g3
 exact ⟨y, g1, g3, .ptr g2, (Below.refl B w).alloc hR.base _⟩

/-! ### Loads and stores -/
theorem isAgg_run {t : TypeId} {b : Bool} (h : isAggB P t = some b) (w : World) : (isAgg t).run P w = .ok b w := by
 unfold isAggB at h
 unfold isAgg
 split at h
 ·rename_i f hu; cases h; rw [Sem.run_bind, run_underlying hu]; rfl
 ·rename_i n e hu; cases h; rw [Sem.run_bind, run_underlying hu]; rfl
 ·rename_i d h1 h2 hu
  cases h
  rw [Sem.run_bind, run_underlying hu]
  cases d <;> first | rfl | exact (h1 _ rfl).elim | exact (h2 _ _ rfl).elim
 ·cases h
theorem loadK_got {t : TypeId} {p : MV} {k : MV → Prg} {H : Heap} {c : Nat} {l : Log} {out : MV × Heap × Nat × Log} (h : run (loadK P t p k) H c l = some out) :
  Got k out fun m H' => H' = H ∧ ∀ x w v, Rel B x H w → Rnd x p v → ∃ u, (Instr.loadAt t v).run P w = .ok u w ∧ Rnd x m u := by
 unfold loadK at h
 split at h
 ·rename_i n off
  unfold run at h
  split at h
  ·rename_i r hr
   split at h
   ·rename_i ha
    split at h
    ·rename_i i hi
     dsimp only at h
     split at h
     ·rename_i hle
      rw [readK_eq] at h
      refine ⟨_, _, _, _, h, rfl, fun x w v hR hv => ?_⟩
      cases hv with
      | ptr hL =>
       rename_i L
       obtain ⟨L', e1, _, hrow⟩ := hR.row n r hr
       rw [hL] at e1; cases e1
       obtain ⟨vs, k1, k2, k3, k4⟩ := hrow.range i.size off (ble_le hle)
       refine ⟨.agg vs.toArray, ?_, .agg k1⟩
       have hl : (loadCells ⟨L.b, L.s + off, none⟩ vs.length).run P w = .ok vs.toArray w := run_loadCells_list (P := P) w _ vs fun j v hv => by rw [Addr.add_mid]; exact k3 j v hv
       rw [k2] at hl
       simp only [Instr.loadAt, Instr.sureAddr, loadVar, Sem.run_bind, Sem.run_pure, Result.andThen_ok, isAgg_run ha, if_true, sizeOf, typeInfo, hi, program, Sem.run, hl]
     ·exact (not_fail h).elim
    ·exact (not_fail h).elim
   ·rename_i ha
    dsimp only at h
    split at h
    ·rename_i hle
     have hlt : off < r.size := by
      rcases Nat.lt_or_ge off r.size with q | q
      ·exact q
      ·rw [Nat.ble_eq_true_of_le q] at hle; cases hle
     have hk : run (k (r.cell off)) H c ((n, .rd) :: l) = some out := by
      unfold Row.cell
      split at h
      ·rename_i m hm; rw [hm]; exact h
      ·rename_i hm; rw [hm]; exact h
     refine ⟨_, _, _, _, hk, rfl, fun x w v hR hv => ?_⟩
     cases hv with
     | ptr hL =>
      rename_i L
      obtain ⟨L', e1, _, hrow⟩ := hR.row n r hr
      rw [hL] at e1; cases e1
      obtain ⟨u, k1, k2, _⟩ := hrow.cel off hlt
      refine ⟨u, ?_, k2⟩
      simp [Instr.loadAt, Instr.sureAddr, loadVar, isAgg_run ha, k1]
    ·exact (not_fail h).elim
   ·exact (not_fail h).elim
  ·cases h
 ·exact (not_fail h).elim
theorem storeCells_got {n off : Nat} {r : Row} {cells : List MV} {k : Prg} {H : Heap} {c : Nat} {l : Log} {out : MV × Heap × Nat × Log} (h : run (storeCellsK n off r cells k) H c l = some out) (hr : H.get n = some (.live r)) :
  cells.all MV.leaf = true ∧ off + cells.length ≤ r.size ∧ ∃ H' l', run k H' c l' = some out ∧ ∀ x w vs, Rel B x H w → Rnds x cells vs → ∃ L, x n = some L ∧ B ≤ L.b ∧ Rel B x H' (w.setCells L.b (L.s + off) vs) ∧ Below B w (w.setCells L.b (L.s + off) vs) ∧
   (∀ j, j < vs.length → (w.cell? ⟨L.b, L.s + off + j, none⟩).isSome = true) ∧ (∀ j, w.frozen? ⟨L.b, j, none⟩ = false) ∧ ∀ v ∈ vs, v.oneCell' = true := by
 unfold storeCellsK at h
 obtain ⟨ty, esz, size, opn, t, zero⟩ := r
 dsimp only at h
 split at h
 ·rename_i h1 h2
  rw [fillK_fill] at h
  unfold run at h
  split at h
  ·rename_i r0 h3 h4
   simp only [setK_set] at h
   refine ⟨h1, ble_le h2, _, _, h, fun x w vs hR hv => ?_⟩
   obtain ⟨L, e1, e2, hrow⟩ := hR.row n _ hr
   have hone := hv.leaf h1
   refine ⟨L, e1, e2, hR.store hr (near_of_ble h4) e1 hv hone (ble_le h2), setCells_below e2 _ _ _, fun j hj => ?_, fun j => hrow.frozen j, hone⟩
   have := hv.length
   have := ble_le h2
   obtain ⟨v, k1, _⟩ := hrow.cel (off + j) (by show off + j < size; omega)
   rw [show L.s + off + j = L.s + (off + j) by omega, k1]
   rfl
  ·cases h
 ·exact (not_fail h).elim
end Go.Proofs.YtbbbflnnbbaamaaGreatDoor.Mini
namespace Go.Proofs.YtbbbflnnbbaamaaGreatDoor.Mini
open Go.RowKit

variable {P : Program} {B : Nat}
theorem run_cells_at {w : World} {b o : Nat} {vs : List Value} (hc : ∀ j, j < vs.length → (w.cell? ⟨b, o + j, none⟩).isSome = true) (hf : ∀ j, w.frozen? ⟨b, j, none⟩ = false) (h1 : ∀ v ∈ vs, v.oneCell' = true) :
  (storeCells ⟨b, o, none⟩ vs).run P w = .ok () (w.setCells b o vs) := by
 have := run_storeCells_cells (P := P) b o vs 0 w (by simpa using hc) (fun j _ => hf _) h1
 simpa using this
theorem storeK_got {t : TypeId} {p q : MV} {k : MV → Prg} {H : Heap} {c : Nat} {l : Log} {out : MV × Heap × Nat × Log} (h : run (storeK P t p q k) H c l = some out) :
  Got k out fun m H' => m = MV.undef ∧ ∀ x w v u, Rel B x H w → Rnd x p v → Rnd x q u → ∃ w', (Instr.storeAt t v u).run P w = .ok () w' ∧ Rel B x H' w' ∧ Below B w w' := by
 unfold storeK at h
 split at h
 ·rename_i n off
  split at h
  ·rename_i i hi
   split at h
   ·rename_i hsz
    unfold run at h
    split at h
    ·rename_i r hr
     obtain ⟨h1, h2, H', l', h3, h4⟩ := storeCells_got (B := B) h hr
     refine ⟨_, _, _, _, h3, rfl, fun x w v u hR hv hu => ?_⟩
     cases hv with
     | ptr hL =>
      rename_i L
      obtain ⟨L', e1, e2, e3, e4, e5, e6, e7⟩ := h4 x w _ hR hu.cells
      rw [hL] at e1; cases e1
      have hs : u.cells.size = i.size := by have := hu.cells.length; simp at this; have := beq_eq hsz; omega
      refine ⟨_, ?_, e3, e4⟩
      simp [Instr.storeAt, Instr.sureAddr, storeVar, sizeOf, typeInfo, hi, hs, run_cells_at (P := P) e5 e6 e7]
    ·cases h
   ·exact (not_fail h).elim
  ·exact (not_fail h).elim
 ·exact (not_fail h).elim

/-! ### Literals -/
theorem splice_eq : ∀ (off : Nat) (ms cs : List MV), off + ms.length ≤ cs.length → spliceL off ms cs = cs.take off ++ ms ++ cs.drop (off + ms.length)
 | off, [], cs, _ => by simp [spliceL]
 | 0, m :: ms, c :: cs, h => by
  have := splice_eq 0 ms cs (by simp at h ⊢; omega)
  simp only [spliceL, this]
  simp
 | 0, m :: ms, [], h => by simp at h
 | n + 1, m :: ms, c :: cs, h => by
  have := splice_eq n (m :: ms) cs (by simp at h ⊢; omega)
  simp only [spliceL, this]
  simp only [List.take_succ_cons, List.length_cons, List.cons_append, List.append_assoc]
  rw [show n + 1 + (ms.length + 1) = (n + (ms.length + 1)) + 1 by omega, List.drop_succ_cons]
 | n + 1, m :: ms, [], h => by simp at h
theorem fold_eq (off : Nat) : ∀ (vs : List Value) (j : Nat) (cs : Array Value), off + j + vs.length ≤ cs.size →
  ((vs.zipIdx j).foldl (fun cs (q : Value × Nat) => cs.setIfInBounds (off + q.2) q.1) cs).toList = cs.toList.take (off + j) ++ vs ++ cs.toList.drop (off + j + vs.length)
 | [], j, cs, _ => by simp
 | v :: vs, j, cs, h => by
  simp only [List.length_cons] at h
  have ih := fold_eq off vs (j + 1) (cs.setIfInBounds (off + j) v) (by simp; omega)
  simp only [List.zipIdx_cons, List.foldl_cons, ih, Array.toList_setIfInBounds]
  have e := list_seg_step cs.toList (off + j) v vs (by simp; omega)
  simpa [Nat.add_assoc] using e
inductive Parts (x : Env) : List (Nat × MV) → List (Nat × Value) → Prop
 | nil : Parts x [] []
 | cons {i : Nat} {m : MV} {v : Value} {ms : List (Nat × MV)} {vs : List (Nat × Value)} (h : Rnd x m v) (hs : Parts x ms vs) : Parts x ((i, m) :: ms) ((i, v) :: vs)
theorem fill_sim {x : Env} {place : Nat → Option (Nat × Nat)} {ms : List (Nat × MV)} {vs : List (Nat × Value)} (hp : Parts x ms vs) : ∀ (cs mc : List MV) (a : Array Value), Rnds x cs a.toList → fillM place cs ms = some mc → ∃ a', Instr.fill place a vs = some a' ∧ Rnds x mc a'.toList := by
 induction hp with
 | nil => intro cs mc a hc h; simp only [fillM, Option.some.injEq] at h; subst h; exact ⟨a, rfl, hc⟩
 | @cons i m v ms vs hm hs ih =>
  intro cs mc a hc h
  unfold fillM at h
  unfold Instr.fill
  cases hpl : place i with
  | none => rw [hpl] at h; cases h
  | some q =>
   obtain ⟨off, size⟩ := q
   rw [hpl] at h
   dsimp only at h ⊢
   split at h
   ·rename_i hb
    rw [Bool.and_eq_true] at hb
    have h1 := beq_eq hb.1
    have h2 := ble_le hb.2
    have hl := hm.cells.length
    have hla := hc.length
    simp only [Array.length_toList] at hl hla
    rw [if_neg (by simp; omega)]
    refine ih _ _ _ ?_ h
    rw [splice_eq _ _ _ (by omega)]
    have e : (v.cells.zipIdx.foldl (fun (cs : Array Value) (q : Value × Nat) => cs.setIfInBounds (off + q.2) q.1) a).toList = a.toList.take off ++ v.cells.toList ++ a.toList.drop (off + v.cells.toList.length) := by
     have := fold_eq off v.cells.toList 0 a (by simp; omega)
     rw [Nat.add_zero] at this
     rw [← this, ← Array.foldl_toList, Array.toList_zipIdx]
    show Rnds x _ (v.cells.zipIdx.foldl (fun (cs : Array Value) (q : Value × Nat) => cs.setIfInBounds (off + q.2) q.1) a).toList
    rw [e]
    have : m.cells.length = v.cells.toList.length := hm.cells.length
    rw [this]
    exact ((hc.take off).append hm.cells).append (hc.drop _)
   ·cases h
theorem places_eq : ∀ (fs : List Field), placesL P fs = fs.mapM (fun f => (P.info? f.type).map fun i => (f.offset, i.size))
 | [] => by simp [placesL]
 | f :: fs => by
  simp only [placesL, List.mapM_cons, places_eq fs]
  cases P.info? f.type <;> simp
  cases List.mapM (fun f => (P.info? f.type).map fun i => (f.offset, i.size)) fs <;> simp
theorem build_sim {x : Env} {t : TypeId} {ms : List (Nat × MV)} {vs : List (Nat × Value)} {cs : List MV} (h : buildM P t ms = some cs) (hp : Parts x ms vs) (w : World) : ∃ a, (Instr.build t vs.toArray).run P w = .ok (.agg a) w ∧ Rnds x cs a.toList := by
 unfold buildM at h
 split at h
 ·rename_i it hi
  split at h
  ·rename_i z hz
   split at h
   ·rename_i fields hu
    split at h
    ·rename_i pl hpl
     obtain ⟨a, h1, h2⟩ := fill_sim hp _ _ z.cells (Rnds.plain x _) h
     refine ⟨a, run_build w t _ a ?_, h2⟩
     rw [places_eq] at hpl
     simp only [Program.built, hi, hu, hz, hpl]
     have e : (fun j : Nat => pl[j]?) = (fun j : Nat => pl.toArray[j]?) := by funext j; simp
     rw [e] at h1
     exact h1
    ·cases h
   ·rename_i n e hu
    split at h
    ·rename_i ie hie
     obtain ⟨a, h1, h2⟩ := fill_sim hp _ _ z.cells (Rnds.plain x _) h
     refine ⟨a, run_build w t _ a ?_, h2⟩
     simp only [Program.built, hi, hu, hz, hie]
     exact h1
    ·cases h
   ·cases h
  ·cases h
 ·cases h
theorem elemInfo_spec {t e : TypeId} {i : TypeInfo} (h : elemInfo P t = some (e, i)) : P.underlying t = some (.slice e) ∧ P.info? e = some i := by
 unfold elemInfo at h
 split at h
 ·rename_i e' hu
  split at h
  ·rename_i i' hi
   simp only [Option.some.injEq, Prod.mk.injEq] at h
   obtain ⟨rfl, rfl⟩ := h
   exact ⟨hu, hi⟩
  ·cases h
 ·cases h
theorem zeroL_rnds (x : Env) (z : Array Value) (n : Nat) : Rnds x (zeroL (z.toList.map .v) n) ((Array.range n).map (z[· % z.size]!)).toList := by
 have e : zeroL (z.toList.map .v) n = ((Array.range n).map (z[· % z.size]!)).toList.map .v := by
  unfold zeroL
  rw [Array.toList_map, Array.toList_range, List.map_map]
  apply List.map_congr_left
  intro i hi
  simp only [Function.comp, List.length_map, Array.length_toList]
  simp only [List.getD_eq_getElem?_getD, List.getElem?_map, Array.getElem?_toList, Array.getElem!_eq_getD, Array.getD_eq_getD_getElem?]
  cases z[i % z.size]? <;> rfl
 rw [e]
 exact Rnds.plain x _
theorem buildSliceK_got {t : TypeId} {len : Nat} {ms : List (Nat × MV)} {k : MV → Prg} {H : Heap} {c : Nat} {l : Log} {out : MV × Heap × Nat × Log} (h : run (buildSliceK P t len ms k) H c l = some out) :
  Got k out fun m H' => ∀ x w vs, Rel B x H w → Parts x ms vs → ∃ v w', (Instr.buildSlice t len vs.toArray).run P w = .ok v w' ∧ Post B x H' m w v w' := by
 unfold buildSliceK at h
 split at h
 ·rename_i e i he
  obtain ⟨hu, hi⟩ := elemInfo_spec he
  split at h
  ·rename_i z hz h1 h2
   split at h
   ·rename_i cells hf
    simp only [strictK_eq, forceN_eq] at h
    obtain ⟨q1, _, q3, q4, q5, l', q6⟩ := new_got h
    refine ⟨_, _, _, _, q6, fun x w vs hR hp => ?_⟩
    obtain ⟨a, f1, f2⟩ := fill_sim hp _ _ _ (zeroL_rnds x z.cells (len * i.size)) hf
    have hb := ble_le h2
    have h1' := ble_le h1
    have hsz : cells.length = len * i.size := by
     have e1 : ∀ (place : Nat → Option (Nat × Nat)) (ms : List (Nat × MV)) (cs mc : List MV), fillM place cs ms = some mc → mc.length = cs.length := by
      intro place ms
      induction ms with
      | nil => intro cs mc h; simp only [fillM, Option.some.injEq] at h; rw [h]
      | cons q ms ih =>
       obtain ⟨i, m⟩ := q
       intro cs mc h
       unfold fillM at h
       split at h
       ·cases h
       ·split at h
        ·rename_i hb
         rw [Bool.and_eq_true] at hb
         have a1 := beq_eq hb.1
         have a2 := ble_le hb.2
         rw [ih _ _ h, splice_eq _ _ _ (by omega)]
         simp
         omega
        ·cases h
     have := e1 _ _ _ _ hf
     rw [this]
     simp [zeroL]
    rw [← hsz] at q6 ⊢
    obtain ⟨y, g1, g2, g3⟩ := hR.alloc (ty := e) (esz := i.size) (opn := false) (zero := []) q4 q5 f2 q1 (by rw [hsz]; exact q3) #[] 0 (fun e => by cases e)
    refine ⟨.slice (some ⟨w.heap.size, 0, none⟩) len len, w.alloc (.cells a e), ?_, y, g1, by simpa using g3, .sl g2 (Nat.le_refl _), (Below.refl B w).alloc hR.base _⟩
    unfold Instr.buildSlice
    by_cases h0 : len * i.size = 0
    ·have e0 : ∀ g : Nat → Value, (Array.range 0).map g = #[] := fun g => by simp
     rw [h0, e0] at f1
     simp [run_underlying hu, sizeOf, typeInfo, hi, h0, e0, f1, Go.newRow]
    ·have hn : ¬ 16777216 < len * i.size := by omega
     simp [run_underlying hu, sizeOf, typeInfo, hi, h0, zeroValue, hz, f1, Go.newRow, hn]
   ·exact (not_fail h).elim
  ·exact (not_fail h).elim
 ·exact (not_fail h).elim
theorem natK_got {m : MV} {k : Nat → Prg} {H : Heap} {c : Nat} {l : Log} {out : MV × Heap × Nat × Log} (h : run (natK m k) H c l = some out) : ∃ t n, m = .v (.int t (.ofNat n)) ∧ run (k n) H c l = some out := by
 unfold natK at h
 split at h
 ·exact ⟨_, _, rfl, h⟩
 ·exact (not_fail h).elim
theorem idxK_got {m : MV} {b : Nat} {k : Nat → Prg} {H : Heap} {c : Nat} {l : Log} {out : MV × Heap × Nat × Log} (h : run (idxK m b k) H c l = some out) : ∃ t n, m = .v (.int t (.ofNat n)) ∧ n < b ∧ run (k n) H c l = some out := by
 unfold idxK at h
 split at h
 ·split at h
  ·rename_i n _ hb
   refine ⟨_, _, rfl, ?_, h⟩
   rcases Nat.lt_or_ge n b with q | q
   ·exact q
   ·rw [Nat.ble_eq_true_of_le q] at hb; cases hb
  ·exact (not_fail h).elim
 ·exact (not_fail h).elim
theorem madeCells_get (z : Array Value) (n j : Nat) (hj : j < n) (hz : 0 < z.size) : ∃ v, (madeCells z n)[j]? = some v ∧ z[j % z.size]? = some v := by
 have hm := Nat.mod_lt j hz
 refine ⟨z[j % z.size], ?_, by simp [hm]⟩
 simp [madeCells, hj, hm]
theorem makeSliceK_got {t : TypeId} {a b : MV} {k : MV → Prg} {H : Heap} {c : Nat} {l : Log} {out : MV × Heap × Nat × Log} (h : run (makeSliceK P t a b k) H c l = some out) :
  Got k out fun m H' => ∀ x w u v, Rel B x H w → Rnd x a u → Rnd x b v → ∃ r w', (Instr.makeSlice t u v).run P w = .ok r w' ∧ Post B x H' m w r w' := by
 unfold makeSliceK at h
 split at h
 ·rename_i e i he
  obtain ⟨hu, hi⟩ := elemInfo_spec he
  split at h
  ·rename_i z hz h1
   obtain ⟨tb, cp, eb, h7⟩ := natK_got h
   obtain ⟨ta, ln, ea, h8⟩ := natK_got h7
   clear h h7
   subst ea eb
   rename run _ _ _ _ = _ => h
   split at h
   ·rename_i h2 h3
    rw [Bool.and_eq_true] at h2
    simp only [forceN_eq] at h
    obtain ⟨_, q2, q3, q4, q5, l', q6⟩ := new_got h
    refine ⟨_, _, _, _, q6, fun x w u v hR hu' hv' => ?_⟩
    have hu1 := hu'.v_eq
    have hv1 := hv'.v_eq
    subst hu1 hv1
    have k1 := ble_le h2.1
    have k2 := beq_eq h2.2
    have k3 := near_of_ble h3
    have k4 := ble_le h1
    have k5 : cp * i.bytes ≤ 1000000000 := by
     have := Nat.mul_add cp i.bytes i.size
     unfold far at k3
     omega
    have k6 : cp * i.size ≤ 1000000000 := by
     have := Nat.mul_add cp i.bytes i.size
     unfold far at k3
     omega
    have k7 : cp ≤ 1000000000 := Nat.le_trans (Nat.le_mul_of_pos_right cp (by omega)) k6
    have hrun := run_make (P := P) (w := w) t e i z hu hi hz ta tb (Int.ofNat ln) (Int.ofNat cp) (Int.natCast_nonneg ln) (Int.ofNat_le.2 k1) (by
     have q : i.bytes * cp ≤ 1000000000 := by rw [Nat.mul_comm]; exact k5
     have e : (i.bytes : Int) * Int.ofNat cp = ((i.bytes * cp : Nat) : Int) := (Int.natCast_mul _ _).symm
     rw [e]
     omega) (by show ((cp : Nat) : Int) ≤ _; omega)
    obtain ⟨y, g1, g2, g3⟩ := hR.new (r := ⟨e, i.size, cp * i.size, false, Fill .nil 0 [], z.cells.toList.map .v⟩) (w' := w.alloc (.cells (madeCells z.cells (cp * i.size)) e)) q4 q5 (heap_alloc_new w _) (fun k hk => Below.heap_alloc w _ k hk) 0 (fun e => by cases e) (Nat.le_of_lt q3) (fun j hj => by
     obtain ⟨v, m1, m2⟩ := madeCells_get z.cells (cp * i.size) j hj (by omega)
     refine ⟨v, m1, ?_, ?_⟩
     ·have : (Row.mk e i.size (cp * i.size) false (Fill .nil 0 []) (z.cells.toList.map .v)).cell j = .v v := by
       unfold Row.cell
       dsimp only
       rw [get_fill _ _ _ _ (by show 0 + 0 ≤ far; omega), if_neg (fun e => by have := e.2; simp at this), T.get_nil]
       rw [← k2]
       simp [List.getD_eq_getElem?_getD, m2]
      rw [this]
      exact .v v
     ·have hv : z.cells.toList.all (fun v => (MV.v v).leaf) = true := by rw [List.all_map] at q2; exact q2
      have hin : v ∈ z.cells.toList := by
       have := Array.mem_of_getElem? m2
       simpa using this
      exact (Rnd.v (x := x) v).leaf (List.all_eq_true.1 hv v hin))
    exact ⟨_, _, hrun, y, g1, g3, .sl g2 k1, (Below.refl B w).alloc hR.base _⟩
   ·exact (not_fail h).elim
  ·exact (not_fail h).elim
 ·exact (not_fail h).elim
end Go.Proofs.YtbbbflnnbbaamaaGreatDoor.Mini
