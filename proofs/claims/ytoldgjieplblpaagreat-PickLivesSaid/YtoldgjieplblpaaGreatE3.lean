/- The small machine: operations that make, read and write memory do in the world what they do with names. -/
import Derived.Test.YtoldgjieplblpaaGreatE2
import Derived.Laws.Tables
namespace Go.Proofs.YtoldgjieplblpaaGreat.Mini
open Go.RowKit

variable {P : Program} {B : Nat}
theorem not_fail {H : Heap} {c : Nat} {l : Log} {out : MV × Heap × Nat × Log} (h : run .fail H c l = some out) : False := by simp [run] at h
/-- What comes out of a step: a value, a heap, and a fact of them. -/
def Got (k : MV → Prg) (out : MV × Heap × Nat × Log) (S : MV → Heap → Prop) : Prop := ∃ m H' c' l', run (k m) H' c' l' = some out ∧ S m H'
theorem Got.mono {k : MV → Prg} {out : MV × Heap × Nat × Log} {S S' : MV → Heap → Prop} (h : Got k out S) (hs : ∀ m H', S m H' → S' m H') : Got k out S' :=
  let ⟨m, H', c', l', h1, h2⟩ := h; ⟨m, H', c', l', h1, hs _ _ h2⟩
/-- What a step leaves. -/
def Post (B : Nat) (x : Env) (H' : Heap) (m : MV) (w : World) (v : Value) (w' : World) : Prop := ∃ y, x.le y ∧ Rel B y H' w' ∧ Rnd y m v ∧ Below B w w'
theorem Post.still {x : Env} {H : Heap} {w : World} {m : MV} {v : Value} (h : Rel B x H w) (hm : Rnd x m v) : Post B x H m w v w := ⟨x, Env.le_refl x, h, hm, Below.refl B w⟩
theorem ble_le {a b : Nat} (h : Nat.ble a b = true) : a ≤ b := Nat.le_of_ble_eq_true h
theorem beq_eq {a b : Nat} (h : Nat.beq a b = true) : a = b := Nat.eq_of_beq_eq_true h

/-! ### What asks nothing of the world -/
theorem pureP_run {α : Type} : ∀ (s : Sem α) (r : α), pureP P s = some r → ∀ w, s.run P w = .ok r w := by
  intro s
  induction s with
  | pure a => intro r h w; simp only [pureP, Option.some.injEq] at h; subst h; rfl
  | program k ih => intro r h w; simp only [pureP] at h; exact ih P r h w
  | _ => intro r h; simp [pureP] at h
theorem pureK_got {s : Sem Value} {k : MV → Prg} {H : Heap} {c : Nat} {l : Log} {out : MV × Heap × Nat × Log} (h : run (pureK P s k) H c l = some out) : Got k out fun m H' => H' = H ∧ ∃ r, m = .v r ∧ ∀ w, s.run P w = .ok r w := by
  unfold pureK at h
  split at h
  · rename_i r hr
    rw [forceV_eq] at h
    exact ⟨_, _, _, _, h, rfl, r, rfl, pureP_run s r hr⟩
  · exact (not_fail h).elim

/-! ### Rows -/
theorem new_got {ty esz size : Nat} {opn : Bool} {cells zero : List MV} {k : Nat → Prg} {H : Heap} {c : Nat} {l : Log} {out : MV × Heap × Nat × Log} (h : run (newRow ty esz size opn cells zero k) H c l = some out) :
    cells.all MV.leaf = true ∧ zero.all MV.leaf = true ∧ size < far ∧ H.get c = none ∧ c < far ∧ ∃ l', run (k c) (H.set c (.live ⟨ty, esz, size, opn, Fill .nil 0 cells, zero⟩)) (c + 1) l' = some out := by
  unfold newRow at h
  split at h
  · rename_i h1 h2
    rw [Bool.and_eq_true] at h1
    rw [fillK_fill] at h
    unfold run at h
    split at h
    · rename_i h3 h4
      simp only [setK_set, forceN_eq] at h
      exact ⟨h1.1, h1.2, near_of_ble h2, h3, near_of_ble h4, _, h⟩
    · cases h
  · exact (not_fail h).elim
theorem cell_filled {ty esz size : Nat} {opn : Bool} {cells zero : List MV} (hc : cells.length ≤ far) {i : Nat} (hi : i < cells.length) : ∃ m, cells[i]? = some m ∧ (Row.mk ty esz size opn (Fill .nil 0 cells) zero).cell i = m := by
  refine ⟨cells[i], List.getElem?_eq_getElem hi, ?_⟩
  unfold Row.cell
  dsimp only
  rw [get_fill _ _ _ _ (by omega), if_pos (by omega), Nat.sub_zero, List.getElem?_eq_getElem hi]
  rfl
theorem cells_rel {x : Env} {ty esz : Nat} {opn : Bool} {cells zero : List MV} {vs : List Value} (hv : Rnds x cells vs) (hl : cells.all MV.leaf = true) (hc : cells.length ≤ far) (extra : Array Value) (i : Nat) (hi : i < cells.length) :
    ∃ v, (vs.toArray ++ extra)[i]? = some v ∧ Rnd x ((Row.mk ty esz cells.length opn (Fill .nil 0 cells) zero).cell i) v ∧ v.oneCell' = true := by
  obtain ⟨m, h1, h2⟩ := cell_filled (ty := ty) (esz := esz) (size := cells.length) (opn := opn) (zero := zero) hc hi
  obtain ⟨v, h3, h4⟩ := hv.get i m h1
  refine ⟨v, ?_, by rw [h2]; exact h4, hv.leaf hl v (List.mem_of_getElem? h3)⟩
  have hi2 : i < vs.length := by rw [← hv.length]; exact hi
  rw [Array.getElem?_append_left (by simpa using hi2)]
  simpa using h3
/-- A new row whose cells are all known. -/
theorem Rel.alloc {x : Env} {H : Heap} {w : World} (h : Rel B x H w) {c : Nat} (hc : H.get c = none) (hf : c < far) {ty esz : Nat} {opn : Bool} {cells zero : List MV} {vs : List Value} (hv : Rnds x cells vs) (hl : cells.all MV.leaf = true) (hs : cells.length < far) (extra : Array Value) (k : Nat) (ho : opn = true → k * esz ≤ vs.length + extra.size) :
    ∃ y, x.le y ∧ y c = some ⟨w.heap.size, 0, k⟩ ∧ Rel B y (H.set c (.live ⟨ty, esz, cells.length, opn, Fill .nil 0 cells, zero⟩)) (w.alloc (.cells (vs.toArray ++ extra) ty)) :=
  h.new hc hf (heap_alloc_new w _) (fun k hk => Below.heap_alloc w _ k hk) k (fun e => by simpa using ho e) (Nat.le_of_lt hs) (fun i hi => cells_rel hv hl (Nat.le_of_lt hs) extra i hi)
theorem boxK_got {t : TypeId} {cells : List MV} {k : MV → Prg} {H : Heap} {c : Nat} {l : Log} {out : MV × Heap × Nat × Log} (h : run (boxK t cells k) H c l = some out) :
    Got k out fun m H' => ∀ x w vs, Rel B x H w → Rnds x cells vs → Post B x H' m w (.pointer (some ⟨w.heap.size, 0, none⟩)) (w.alloc (.cells vs.toArray t)) := by
  unfold boxK at h
  rw [forceN_eq] at h
  obtain ⟨h1, _, h3, h4, h5, l', h6⟩ := new_got h
  refine ⟨_, _, _, _, h6, fun x w vs hR hv => ?_⟩
  obtain ⟨y, g1, g2, g3⟩ := hR.alloc (ty := t) (esz := cells.length) (opn := false) (zero := []) h4 h5 hv h1 h3 #[] 0 (fun e => by cases e)
  rw [Array.append_empty] at g3
  exact ⟨y, g1, g3, .ptr g2, (Below.refl B w).alloc hR.base _⟩

/-! ### Loads and stores -/
theorem isAgg_run {t : TypeId} {b : Bool} (h : isAggB P t = some b) (w : World) : (isAgg t).run P w = .ok b w := by
  unfold isAggB at h
  unfold isAgg
  split at h
  · rename_i f hu; cases h; rw [Sem.run_bind, run_underlying hu]; rfl
  · rename_i n e hu; cases h; rw [Sem.run_bind, run_underlying hu]; rfl
  · rename_i d h1 h2 hu
    cases h
    rw [Sem.run_bind, run_underlying hu]
    cases d <;> first | rfl | exact (h1 _ rfl).elim | exact (h2 _ _ rfl).elim
  · cases h
theorem loadK_got {t : TypeId} {p : MV} {k : MV → Prg} {H : Heap} {c : Nat} {l : Log} {out : MV × Heap × Nat × Log} (h : run (loadK P t p k) H c l = some out) :
    Got k out fun m H' => H' = H ∧ ∀ x w v, Rel B x H w → Rnd x p v → ∃ u, (Instr.loadAt t v).run P w = .ok u w ∧ Rnd x m u := by
  unfold loadK at h
  split at h
  · rename_i n off
    unfold run at h
    split at h
    · rename_i r hr
      split at h
      · rename_i ha
        split at h
        · rename_i i hi
          dsimp only at h
          split at h
          · rename_i hle
            rw [readK_eq] at h
            refine ⟨_, _, _, _, h, rfl, fun x w v hR hv => ?_⟩
            cases hv with
            | ptr hL =>
              rename_i L
              obtain ⟨L', e1, _, hrow⟩ := hR.row n r hr
              rw [hL] at e1; cases e1
              obtain ⟨vs, k1, k2, k3, k4⟩ := hrow.range i.size off (ble_le hle)
              refine ⟨.agg vs.toArray, ?_, .agg k1⟩
              have hl : (loadCells ⟨L.b, L.s + off, none⟩ vs.length).run P w = .ok vs.toArray w := run_loadCells_list (P := P) w _ vs fun j v hv => by rw [Addr.add_mid]; exact k3 j v hv
              rw [k2] at hl
              simp only [Instr.loadAt, Instr.sureAddr, loadVar, Sem.run_bind, Sem.run_pure, Result.andThen_ok, isAgg_run ha, if_true, sizeOf, typeInfo, hi, program, Sem.run, hl]
          · exact (not_fail h).elim
        · exact (not_fail h).elim
      · rename_i ha
        dsimp only at h
        split at h
        · rename_i hle
          have hlt : off < r.size := by
            rcases Nat.lt_or_ge off r.size with q | q
            · exact q
            · rw [Nat.ble_eq_true_of_le q] at hle; cases hle
          have hk : run (k (r.cell off)) H c ((n, .rd) :: l) = some out := by
            unfold Row.cell
            split at h
            · rename_i m hm; rw [hm]; exact h
            · rename_i hm; rw [hm]; exact h
          refine ⟨_, _, _, _, hk, rfl, fun x w v hR hv => ?_⟩
          cases hv with
          | ptr hL =>
            rename_i L
            obtain ⟨L', e1, _, hrow⟩ := hR.row n r hr
            rw [hL] at e1; cases e1
            obtain ⟨u, k1, k2, _⟩ := hrow.cel off hlt
            refine ⟨u, ?_, k2⟩
            simp [Instr.loadAt, Instr.sureAddr, loadVar, isAgg_run ha, k1]
        · exact (not_fail h).elim
      · exact (not_fail h).elim
    · cases h
  · exact (not_fail h).elim
theorem storeCells_got {n off : Nat} {r : Row} {cells : List MV} {k : Prg} {H : Heap} {c : Nat} {l : Log} {out : MV × Heap × Nat × Log} (h : run (storeCellsK n off r cells k) H c l = some out) (hr : H.get n = some (.live r)) :
    cells.all MV.leaf = true ∧ off + cells.length ≤ r.size ∧ ∃ H' l', run k H' c l' = some out ∧ ∀ x w vs, Rel B x H w → Rnds x cells vs → ∃ L, x n = some L ∧ B ≤ L.b ∧ Rel B x H' (w.setCells L.b (L.s + off) vs) ∧ Below B w (w.setCells L.b (L.s + off) vs) ∧
      (∀ j, j < vs.length → (w.cell? ⟨L.b, L.s + off + j, none⟩).isSome = true) ∧ (∀ j, w.frozen? ⟨L.b, j, none⟩ = false) ∧ ∀ v ∈ vs, v.oneCell' = true := by
  unfold storeCellsK at h
  obtain ⟨ty, esz, size, opn, t, zero⟩ := r
  dsimp only at h
  split at h
  · rename_i h1 h2
    rw [fillK_fill] at h
    unfold run at h
    split at h
    · rename_i r0 h3 h4
      simp only [setK_set] at h
      refine ⟨h1, ble_le h2, _, _, h, fun x w vs hR hv => ?_⟩
      obtain ⟨L, e1, e2, hrow⟩ := hR.row n _ hr
      have hone := hv.leaf h1
      refine ⟨L, e1, e2, hR.store hr (near_of_ble h4) e1 hv hone (ble_le h2), setCells_below e2 _ _ _, fun j hj => ?_, fun j => hrow.frozen j, hone⟩
      have := hv.length
      have := ble_le h2
      obtain ⟨v, k1, _⟩ := hrow.cel (off + j) (by show off + j < size; omega)
      rw [show L.s + off + j = L.s + (off + j) by omega, k1]
      rfl
    · cases h
  · exact (not_fail h).elim
end Go.Proofs.YtoldgjieplblpaaGreat.Mini
