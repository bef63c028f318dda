/- Allocate. -/
import Derived.Test.YtjfpaelmcepidaaD5
import Derived.Deep.RegionLaw
import Derived.Deep.AppendLies
namespace Go.Proofs.Ytjfpaelmcepidaa.PK
open Go.RowKit

/-- The values of a row are these rows of instructions, and lie in other blocks. -/
def CRowsAre (w : World) (base : Nat) (row : Option Nat) (L : List (List Cd)) (vals : List Value) : Prop :=
  ∀ k, k < L.length → ∃ a cap, vals[k]? = some (.slice a (L.getD k []).length cap) ∧ (L.getD k []).length ≤ cap ∧ (a = none → cap = 0) ∧ CdsIn w a (L.getD k []) ∧ ∀ b off, a = some ⟨b, off, none⟩ → base ≤ b ∧ b < w.heap.size ∧ some b ≠ row
/-- Rows of instructions in a row of the call's own. -/
def CRowsOwn (w : World) (base : Nat) (v : Value) (L : List (List Cd)) : Prop := ∃ vals, w.ownsRow base 48 1 v L.length vals ∧ CRowsAre w base v.ownBlock L vals
theorem CRowsOwn.nil (w : World) (base : Nat) : CRowsOwn w base (.slice none 0 0) [] := ⟨[], owns_nil _ _ _ _, fun _ hk => absurd hk (Nat.not_lt_zero _)⟩
theorem CRowsOwn.shape {w : World} {base : Nat} {v : Value} {L : List (List Cd)} (h : CRowsOwn w base v L) : ∃ a cap, v = .slice a L.length cap := by
  obtain ⟨vals, ho, _⟩ := h
  exact owns_shape ho
theorem CRowsAre.below {w w' : World} {base : Nat} {row : Option Nat} {L : List (List Cd)} {vals : List Value} (h : CRowsAre w base row L vals) (hb : Below w.heap.size w w') : CRowsAre w' base row L vals := fun k hk => by
  obtain ⟨a, cap, h1, h2, h0, h3, h4⟩ := h k hk
  exact ⟨a, cap, h1, h2, h0, h3.below hb, fun b off e => ⟨(h4 b off e).1, Nat.lt_of_lt_of_le (h4 b off e).2.1 hb.size, (h4 b off e).2.2⟩⟩
theorem CRowsOwn.below {w w' : World} {base : Nat} {v : Value} {L : List (List Cd)} (h : CRowsOwn w base v L) (hb : Below w.heap.size w w') : CRowsOwn w' base v L := by
  obtain ⟨vals, ho, hr⟩ := h
  exact ⟨vals, owns_below ho hb, hr.below hb⟩
theorem CRowsOwn.base {w : World} {base base' : Nat} {v : Value} {L : List (List Cd)} (h : CRowsOwn w base v L) (hb : base' ≤ base) : CRowsOwn w base' v L := by
  obtain ⟨vals, ho, hr⟩ := h
  refine ⟨vals, owns_base ho hb, fun k hk => ?_⟩
  obtain ⟨a, cap, h1, h2, h0, h3, h4⟩ := hr k hk
  exact ⟨a, cap, h1, h2, h0, h3, fun b off e => ⟨Nat.le_trans hb (h4 b off e).1, (h4 b off e).2⟩⟩
/-- One row more. -/
theorem CRowsOwn.snoc {w w' : World} {base : Nat} {v v' : Value} {L : List (List Cd)} {a : Option Addr} {cap : Nat} {xs : List Cd} {vals : List Value} (hl : vals.length = L.length) (h : CRowsAre w base v.ownBlock L vals) (ho : w'.ownsRow base 48 1 v' (L.length + 1) (vals ++ [.slice a xs.length cap])) (hg : w.grownBy w' v.ownBlock)
    (hat : v'.ownBlock = v.ownBlock ∨ v'.ownBlock = some w.heap.size) (hx : CdsIn w a xs) (hcap : xs.length ≤ cap) (h0 : a = none → cap = 0) (hxb : ∀ b off, a = some ⟨b, off, none⟩ → base ≤ b ∧ b < w.heap.size ∧ some b ≠ v.ownBlock) : CRowsOwn w' base v' (L ++ [xs]) := by
  have hkeep : ∀ (b : Option Addr) (ys : List Cd), CdsIn w b ys → (∀ c off, b = some ⟨c, off, none⟩ → base ≤ c ∧ c < w.heap.size ∧ some c ≠ v.ownBlock) → CdsIn w' b ys := fun b ys hi hb k hk => by
    obtain ⟨c, off, rfl, hc⟩ := hi k hk
    exact ⟨c, off, rfl, cell_kept hc.c0 hg (hb c off rfl).2.2, cell_kept hc.c1 hg (hb c off rfl).2.2, cell_kept hc.c2 hg (hb c off rfl).2.2, cell_kept hc.c3 hg (hb c off rfl).2.2, cell_kept hc.c4 hg (hb c off rfl).2.2, cell_kept hc.c5 hg (hb c off rfl).2.2⟩
  have hnew : ∀ c, base ≤ c ∧ c < w.heap.size ∧ some c ≠ v.ownBlock → base ≤ c ∧ c < w'.heap.size ∧ some c ≠ v'.ownBlock := fun c ⟨h3, h1, h2⟩ => ⟨h3, Nat.lt_of_lt_of_le h1 hg.size, fun e => by
    rcases hat with h3 | h3
    · rw [h3] at e; exact h2 e
    · rw [h3] at e; cases e; omega⟩
  refine ⟨vals ++ [.slice a xs.length cap], by rw [List.length_append]; exact ho, fun k hk => ?_⟩
  rw [List.length_append, List.length_singleton] at hk
  by_cases e : k < L.length
  · obtain ⟨b, c, h1, h2, h00, h3, h4⟩ := h k e
    have el : (L ++ [xs]).getD k [] = L.getD k [] := by rw [List.getD_eq_getElem?_getD, List.getD_eq_getElem?_getD, List.getElem?_append_left e]
    rw [el]
    refine ⟨b, c, ?_, h2, h00, hkeep b _ h3 h4, fun d off ed => hnew d (h4 d off ed)⟩
    rw [List.getElem?_append_left (by rw [hl]; exact e)]; exact h1
  · obtain rfl : k = L.length := by omega
    have el : (L ++ [xs]).getD L.length [] = xs := by simp [List.getD_eq_getElem?_getD]
    rw [el]
    refine ⟨a, cap, ?_, hcap, h0, hkeep a xs hx hxb, fun c off ec => hnew c (hxb c off ec)⟩
    rw [← hl, List.getElem?_append_right (Nat.le_refl _)]
    simp
theorem CRowsOwn.blk {w : World} {base : Nat} {v : Value} {L : List (List Cd)} (h : CRowsOwn w base v L) : ∃ a cap, v = .slice a L.length cap ∧ BlkIn w a L := by
  obtain ⟨vals, ho, hr⟩ := h
  obtain ⟨a, cap, rfl⟩ := owns_shape ho
  refine ⟨a, cap, rfl, fun k hk => ?_⟩
  obtain ⟨a', cap', h1, _, _, h3, _⟩ := hr k hk
  obtain ⟨g, c, e, _, _, _, _, hc, _⟩ := owns_cells ho (by omega)
  cases e
  exact ⟨g, 0, a', cap', rfl, by rw [Nat.zero_add]; exact hc _ _ h1, h3⟩
theorem codes_part {w : World} {base : Nat} {v : Value} {l : List Cd} (h : w.ownsRow base 68 6 v l.length (encC l)) : ∃ a cap, v = .slice a l.length cap ∧ l.length ≤ cap ∧ (a = none → cap = 0) ∧ CdsIn w a l ∧ ∀ b off, a = some ⟨b, off, none⟩ → base ≤ b ∧ b < w.heap.size := by
  obtain ⟨a, cap, rfl, h1, h2⟩ := cds_of_owns h
  refine ⟨a, cap, rfl, h1, fun e => ?_, h2, fun b off e => ?_⟩
  · subst e
    obtain ⟨_, ⟨e2, _⟩ | ⟨g, c, cur, e2, _⟩⟩ := h
    · exact (Value.slice.inj e2).2.2
    · cases e2
  · subst e
    exact owns_block h rfl
end Go.Proofs.Ytjfpaelmcepidaa.PK
namespace Go.Proofs.Ytjfpaelmcepidaa.PK
open Go.RowKit Go.Maps

theorem results_cell_tmp2 {P : Program} {fn : Func} {p u v : Tmp} {ty : TypeId} (h : fn.results = #[.cell p ty, .tmp u, .tmp v]) (tmps : Array Value) (w : World) (g : Nat) (t : TypeId) (cs : Array Value) (fr : Nat × Nat) (d : TypeDesc)
    (hp : tmps.getD p undef = .pointer (some ⟨g, 0, none⟩)) (hg : w.heap[g]? = some (.cells cs t fr))
    (hu : P.underlying ty = some d) (hd : (match d with | .struct _ | .array _ _ => true | _ => false) = true) (hi : (P.info? ty).map (·.size) = some cs.size) :
    (results fn tmps).run P w = .ok (.tuple #[.agg cs, tmps.getD u undef, tmps.getD v undef]) w := by
  have hp' : tmps[p]?.getD undef = .pointer (some ⟨g, 0, none⟩) := by simpa using hp
  simp [results, h, hp', asAddr, run_loadVar_row w g t ty cs fr d hg hu hd hi]
theorem Try.infoCodes : (Try.prog.info? 48).map (fun i => (i.zero, i.size, i.bytes)) = some (some (.slice none 0 0), 1, 24) := by kernel_rfl
theorem sizePg : (Try.prog.info? 24).map (·.size) = some 2 := by kernel_rfl
theorem there_row2 {w : World} {b : Nat} {v0 v1 : Value} {t : TypeId} (h : w.heap[b]? = some (.cells #[v0, v1] t (0, 0))) : w.there b 0 2 := fun j hj => ⟨by
  rw [cell_of_row w b _ _ _ _ h]
  match j, hj with
  | 0, _ => rfl
  | 1, _ => rfl, frozen_of_row w b _ _ _ h⟩
theorem set_row2 {w : World} {b : Nat} {v0 v1 : Value} {t : TypeId} (h : w.heap[b]? = some (.cells #[v0, v1] t (0, 0))) (x0 x1 : Value) :
    (w.setCells b 0 [x0, x1]).heap[b]? = some (.cells #[x0, x1] t (0, 0)) := heap_setCell_same _ b 1 _ t x1 (heap_setCell_same w b 0 _ t x0 h)
theorem save_row2 (w : World) (b : Nat) (x0 x1 : Value) : Save b w (w.setCells b 0 [x0, x1]) := (Save.set b 0 w x0).trans (Save.set b 1 _ x1)
theorem oneP (k : Int) (a : Option Addr) (n c : Nat) : (#[.int .i64 k, .slice a n c] : Array Value).all (·.oneCell') = true := by simp [Value.oneCell']
theorem CRowsOwn.saveB {w w' : World} {q base : Nat} {v : Value} {L : List (List Cd)} (h : CRowsOwn w base v L) (hs : Save q w w') (hq : q < base) : CRowsOwn w' base v L := by
  obtain ⟨vals, ho, hr⟩ := h
  refine ⟨vals, owns_of_block ho fun g h1 h2 _ => hs.block g h2 (by omega), fun k hk => ?_⟩
  obtain ⟨a, cap, h1, h2, h0, h3, h4⟩ := hr k hk
  exact ⟨a, cap, h1, h2, h0, h3.save hs (fun b off e => by have := (h4 b off e).1; omega), fun b off e => ⟨(h4 b off e).1, Nat.lt_of_lt_of_le (h4 b off e).2.1 hs.size, (h4 b off e).2.2⟩⟩
/-- How things stand in Allocate. -/
structure ASt (w0 w : World) (n sb ob rn k : Nat) (bl : Option Addr) (cap : Nat) (ls : List (List Cd)) (a b c : Nat) (s : Seats) (places : Nat) (vB : Value) (Q : List (List Cd)) : Prop where
  p0 : w.cell? ⟨n, 0, none⟩ = some (.int .i64 (rn : Int))
  p1 : w.cell? ⟨n, 1, none⟩ = some (.slice bl ls.length cap)
  res : w.heap[n + 1]? = some (.cells #[.int .i64 0, .slice none 0 0] 24 (0, 0))
  s0 : w.cell? ⟨sb, 0, none⟩ = some (.map (some a))
  s1 : w.cell? ⟨sb, 1, none⟩ = some (.map (some b))
  s2 : w.cell? ⟨sb, 2, none⟩ = some (.map (some c))
  s3 : w.cell? ⟨sb, 3, none⟩ = some (.int .i64 (s.k : Int))
  so : SeatsOk w (.agg #[.map (some a), .map (some b), .map (some c), .int .i64 (s.k : Int)]) s places
  out : w.heap[ob]? = some (.cells #[.int .i64 ((k : Int) + 2), vB] 24 (0, 0))
  blk0 : BlkIn w0 bl ls
  rows : CRowsOwn w (ob + 1) vB Q
  low : Below n w0 w
  ord : n = w0.heap.size ∧ n + 1 < sb ∧ sb < ob ∧ a < sb ∧ b < sb ∧ c < sb
section
variable {w0 w w' : World} {n sb ob rn k a b c places cap : Nat} {bl : Option Addr} {ls Q Q' : List (List Cd)} {s : Seats} {vB vB' : Value}
theorem ASt.olt (h : ASt w0 w n sb ob rn k bl cap ls a b c s places vB Q) : ob < w.heap.size := lt_of_block h.out
theorem ASt.below (h : ASt w0 w n sb ob rn k bl cap ls a b c s places vB Q) (hb : Below w.heap.size w w') : ASt w0 w' n sb ob rn k bl cap ls a b c s places vB Q :=
  ⟨keep h.p0 hb, keep h.p1 hb, (hb.block _ (lt_of_block h.res)).trans h.res, keep h.s0 hb, keep h.s1 hb, keep h.s2 hb, keep h.s3 hb, h.so.below hb, (hb.block _ h.olt).trans h.out, h.blk0, h.rows.below hb, h.low.trans (hb.mono (by have := h.olt; have := h.ord; omega)), h.ord⟩
theorem ASt.blk (h : ASt w0 w n sb ob rn k bl cap ls a b c s places vB Q) : BlkIn w bl ls := h.blk0.below (by have := h.low; rw [h.ord.1] at this; exact this)
/-- A change behind block ob - 1, where ob's content and the rows are known. -/
theorem ASt.behind (h : ASt w0 w n sb ob rn k bl cap ls a b c s places vB Q) (hs : ∀ k, k < ob → w'.heap[k]? = w.heap[k]?) (hlow : Below n w w') (hout : w'.heap[ob]? = some (.cells #[.int .i64 ((k : Int) + 2), vB'] 24 (0, 0))) (hr : CRowsOwn w' (ob + 1) vB' Q') : ASt w0 w' n sb ob rn k bl cap ls a b c s places vB' Q' := by
  have ho := h.ord
  have cs : ∀ {b off : Nat} {v : Value}, w.cell? ⟨b, off, none⟩ = some v → b < ob → w'.cell? ⟨b, off, none⟩ = some v := fun h1 h2 => cell_same h1 (hs _ h2)
  refine ⟨cs h.p0 (by omega), cs h.p1 (by omega), (hs _ (by omega)).trans h.res, cs h.s0 (by omega), cs h.s1 (by omega), cs h.s2 (by omega), cs h.s3 (by omega), ⟨h.so.lie.same hs fun a' b' c' k e => ?_, h.so.col, h.so.frm, h.so.kl⟩, hout, h.blk0, hr, h.low.trans hlow, ho⟩
  cases e
  omega
theorem ASt.start (p0 : w.cell? ⟨n, 0, none⟩ = some (.int .i64 (rn : Int))) (p1 : w.cell? ⟨n, 1, none⟩ = some (.slice bl ls.length cap)) (res : w.heap[n + 1]? = some (.cells #[.int .i64 0, .slice none 0 0] 24 (0, 0)))
    (so : SeatsOk w (.agg #[.map (some a), .map (some b), .map (some c), .int .i64 (s.k : Int)]) s places) (blk : BlkIn w0 bl ls) (low : Below n w0 w) (ord : n = w0.heap.size ∧ n + 1 < w.heap.size ∧ a < w.heap.size ∧ b < w.heap.size ∧ c < w.heap.size) :
    ASt w0 ((w.alloc (.cells #[.map (some a), .map (some b), .map (some c), .int .i64 (s.k : Int)] 59)).alloc (.cells #[.int .i64 ((k : Int) + 2), .slice none 0 0] 24)) n w.heap.size (w.heap.size + 1) rn k bl cap ls a b c s places (.slice none 0 0) [] := by
  have hba : Below w.heap.size w ((w.alloc (.cells #[.map (some a), .map (some b), .map (some c), .int .i64 (s.k : Int)] 59)).alloc (.cells #[.int .i64 ((k : Int) + 2), .slice none 0 0] 24)) := ((Below.refl _ _).alloc (Nat.le_refl _) _).alloc (by simp) _
  refine ⟨keep p0 hba, keep p1 hba, (hba.block _ (lt_of_block res)).trans res, by simp [go_sem], by simp [go_sem], by simp [go_sem], by simp [go_sem], so.below hba, ?_, blk, CRowsOwn.nil _ _, low.trans (hba.mono (by omega)), by omega⟩
  have := heap_alloc_new (w.alloc (.cells #[.map (some a), .map (some b), .map (some c), .int .i64 (s.k : Int)] 59)) (.cells #[.int .i64 ((k : Int) + 2), .slice none 0 0] 24)
  simpa using this
theorem beg_done {w6 w7 w9 : World} {B g7 c7 g9 c9 : Nat} {v : Value} {l : List Cd} (h : ASt w0 w n sb ob rn k bl cap ls a b c s places (.slice none 0 0) []) (hB : ob < B) (hb6 : Below w.heap.size w w6) (ho6 : w6.ownsRow B 68 6 v l.length (encC l)) (hg7 : w6.grownBy w7 v.ownBlock)
    (ho7 : w7.ownsRow B 68 6 (.slice (some ⟨g7, 0, none⟩) (l.length + 1) c7) (l.length + 1) (encC l ++ [.int .i64 24, .int .i64 0, .int .i64 0, .int .i64 0, .int .u32 0, .int .i64 1])) (hg9 : (w7.alloc (.cells #[.slice (some ⟨g7, 0, none⟩) (l.length + 1) c7] 48)).grownBy w9 none)
    (ho9 : w9.ownsRow (ob + 1) 48 1 (.slice (some ⟨g9, 0, none⟩) (0 + 1) c9) (0 + 1) ([] ++ [.slice (some ⟨g7, 0, none⟩) (l.length + 1) c7])) (hat9 : g9 = (w7.alloc (.cells #[.slice (some ⟨g7, 0, none⟩) (l.length + 1) c7] 48)).heap.size) :
    ASt w0 (w9.setCell ⟨ob, 1, none⟩ (.slice (some ⟨g9, 0, none⟩) 1 c9)) n sb ob rn k bl cap ls a b c s places (.slice (some ⟨g9, 0, none⟩) 1 c9) [l ++ [cJmp]] := by
  have hol := h.olt
  have hs6 := hb6.size
  have hs7 := hg7.size
  have hs9 := hg9.size
  simp only [World.size_alloc] at hs9
  have hv : ∀ g, v.ownBlock = some g → B ≤ g := fun g e => (owns_block ho6 e).1
  have hk : ∀ j, j ≤ ob → w9.heap[j]? = w.heap[j]? := fun j hj => by
    rw [hg9.block j (by simp; omega) (by simp), Below.heap_alloc w7 _ j (by omega), hg7.block j (by omega) (fun e => by have := hv j e.symm; omega), hb6.block j (by omega)]
  have hg7b : B ≤ g7 ∧ g7 < w7.heap.size := owns_block ho7 rfl
  have h2 := (hk ob (Nat.le_refl _)).trans h.out
  refine h.behind (fun j hj => ?_) ⟨?_, ?_, ?_, ?_, fun j hj => ?_⟩ ?_ ⟨[.slice (some ⟨g7, 0, none⟩) (l.length + 1) c7], ?_, fun j hj => ?_⟩
  · rw [Below.heap_setCell _ _ _ _ (by show j ≠ ob; omega)]; exact hk j (by omega)
  · exact (hg9.os.trans hg7.os).trans hb6.os
  · exact (hg9.tape.trans hg7.tape).trans hb6.tape
  · exact (hg9.output.trans hg7.output).trans hb6.output
  · simp; omega
  · have := h.ord
    rw [Below.heap_setCell _ _ _ _ (by show j ≠ ob; omega)]; exact hk j (by omega)
  · rw [heap_setCell_same w9 ob 1 _ _ _ h2]; rfl
  · exact owns_of_block (by simpa using ho9) fun g h1 _ _ => Below.heap_setCell _ _ _ _ (by show g ≠ ob; omega)
  · obtain rfl : j = 0 := by simp at hj; omega
    have hcd : w7.ownsRow B 68 6 (.slice (some ⟨g7, 0, none⟩) (l.length + 1) c7) (l ++ [cJmp]).length (encC (l ++ [cJmp])) := by
      rw [encC_snoc, List.length_append]; exact ho7
    obtain ⟨a', c', e', h3, h4, h5, h6⟩ := codes_part hcd
    simp only [List.length_append, List.length_singleton, Value.slice.injEq] at e'
    obtain ⟨rfl, _, rfl⟩ := e'
    refine ⟨some ⟨g7, 0, none⟩, c7, by simp, by simpa using h3, fun e => (by cases e), ?_, fun b' off e => ?_⟩
    · have h8 : CdsIn (w9.setCell ⟨ob, 1, none⟩ (.slice (some ⟨g9, 0, none⟩) 1 c9)) (some ⟨g7, 0, none⟩) (l ++ [cJmp]) := by
        refine CdsIn.save (CdsIn.grown (h5.below ((Below.refl w7.heap.size w7).alloc (Nat.le_refl _) _)) hg9 (fun _ _ _ g e => by cases e)) (Save.set ob 1 _ _) (fun b' off e => ?_)
        cases e; omega
      simpa using h8
    · cases e
      refine ⟨by omega, by simp; omega, fun e => ?_⟩
      simp only [Value.ownBlock, Option.some.injEq] at e
      rw [e, hat9] at hg7b
      simp at hg7b
      omega
theorem CRowsOwn.aside {w : World} {q : Nat} {v : Value} {L : List (List Cd)} (h : CRowsOwn w (q + 1) v L) (j : Nat) (x : Value) : CRowsOwn (w.setCell ⟨q, j, none⟩ x) (q + 1) v L := by
  obtain ⟨vals, ho, hr⟩ := h
  refine ⟨vals, owns_of_block ho fun g h1 _ _ => Below.heap_setCell _ _ _ _ (by show g ≠ q; omega), fun k hk => ?_⟩
  obtain ⟨a, cap, h1, h2, h0, h3, h4⟩ := hr k hk
  exact ⟨a, cap, h1, h2, h0, h3.save (Save.set q j _ _) (fun b off e => by have := (h4 b off e).1; omega), fun b off e => ⟨(h4 b off e).1, by simp; exact (h4 b off e).2.1, (h4 b off e).2.2⟩⟩
theorem out_done {w9 : World} {v9 : Value} {vals : List Value} {l' : List Cd} {a' : Option Addr} {c' : Nat} {o : Obj} (h : ASt w0 w n sb ob rn k bl cap ls a b c s places vB Q) (hov : w.ownsRow (ob + 1) 48 1 vB Q.length vals) (hra : CRowsAre w (ob + 1) vB.ownBlock Q vals)
    (ho9 : w9.ownsRow (ob + 1) 48 1 v9 (Q.length + 1) (vals ++ [.slice a' l'.length c'])) (hg9 : (w.alloc o).grownBy w9 vB.ownBlock) (hat : v9.ownBlock = vB.ownBlock ∨ v9.ownBlock = some (w.alloc o).heap.size)
    (hcd : CdsIn w a' l') (hlen : l'.length ≤ c') (hnone : a' = none → c' = 0) (hblk : ∀ b off, a' = some ⟨b, off, none⟩ → ob + 1 ≤ b ∧ b < w.heap.size ∧ some b ≠ vB.ownBlock) :
    ASt w0 (w9.setCell ⟨ob, 1, none⟩ v9) n sb ob rn k bl cap ls a b c s places v9 (Q ++ [l']) := by
  have hba : Below w.heap.size w (w.alloc o) := (Below.refl _ _).alloc (Nat.le_refl _) _
  have hol := h.olt
  have hs9 := hg9.size
  simp only [World.size_alloc] at hs9
  have hv : ∀ g, vB.ownBlock = some g → ob + 1 ≤ g := fun g e => (owns_block hov e).1
  have hk : ∀ j, j ≤ ob → w9.heap[j]? = w.heap[j]? := fun j hj => by
    rw [hg9.block j (by simp; omega) (fun e => by have := hv j e.symm; omega), hba.block j (by omega)]
  have hr := CRowsOwn.snoc (by have := hov.1; omega) (hra.below hba) ho9 hg9 hat (hcd.below hba) hlen hnone (fun b off e => ⟨(hblk b off e).1, by simp; have := (hblk b off e).2.1; omega, (hblk b off e).2.2⟩)
  have h2 := (hk ob (Nat.le_refl _)).trans h.out
  refine h.behind (fun j hj => ?_) ⟨hg9.os.trans hba.os, hg9.tape.trans hba.tape, hg9.output.trans hba.output, by simp; omega, fun j hj => ?_⟩ ?_ (hr.aside 1 v9)
  · rw [Below.heap_setCell _ _ _ _ (by show j ≠ ob; omega)]; exact hk j (by omega)
  · have := h.ord
    rw [Below.heap_setCell _ _ _ _ (by show j ≠ ob; omega)]; exact hk j (by omega)
  · rw [heap_setCell_same w9 ob 1 _ _ _ h2]; rfl
end
theorem begS_snoc (s : Seats) {l : List Int} {i : Nat} (h : i < l.length) : begS s (l.take (i + 1)) = begS s (l.take i) ++ (match s.frm (l.getD i 0) with | some p => [cSw s.k p] | none => []) := by
  have e : l.getD i 0 = l[i] := by rw [List.getD_eq_getElem?_getD, List.getElem?_eq_getElem h]; rfl
  unfold begS
  rw [List.take_succ_eq_append_getElem h, List.filterMap_append, e]
  congr 1
  rw [List.filterMap_cons, List.filterMap_nil]
  cases s.frm l[i] <;> rfl
def preS (s : Seats) (l0 : List Int) : List (List Cd) := if begS s l0 = [] then [] else [begS s l0 ++ [cJmp]]
theorem begS_le (s : Seats) (l : List Int) : (begS s l).length ≤ l.length := by unfold begS; exact List.length_filterMap_le _ _
/-- The stores ahead of all. -/
def BegRel (w5 : World) (s : Seats) (l0 : List Int) (v : Value) (i : Nat) (wr : World) : Prop := wr.ownsRow w5.heap.size 68 6 v (begS s (l0.take i)).length (encC (begS s (l0.take i))) ∧ Below w5.heap.size w5 wr
theorem opndA_len (s : Seats) (x : Cd) : (opndA s x).2.length ≤ 1 := by
  unfold opndA; split
  · exact readS_len _ _ _
  · simp
theorem opndB_len (s : Seats) (x : Cd) : (opndB s x).2.length ≤ 1 := by
  unfold opndB; split
  · exact readS_len _ _ _
  · simp
theorem opndD_len (s : Seats) (x : Cd) : (opndD s x).2.length ≤ 1 := by
  unfold opndD; split
  · exact writeS_len _ _
  · simp
theorem codeS_le (s : Seats) (x : Cd) : (codeS s x).length ≤ 4 := by
  have h1 := opndA_len s x
  have h2 := opndB_len s x
  have h3 := opndD_len s x
  unfold codeS
  split
  · simp
  · simp only [List.length_append, List.length_cons]; omega
theorem blockS_snoc (s : Seats) (sh : Nat) {l : List Cd} {j : Nat} (h : j < l.length) : blockS s sh (l.take (j + 1)) = blockS s sh (l.take j) ++ codeS s (shX sh (atC l j)) := by
  unfold blockS
  rw [List.take_succ_eq_append_getElem h, List.flatMap_append, atC_get h]
  simp
theorem blockS_le (s : Seats) (sh : Nat) : ∀ l : List Cd, (blockS s sh l).length ≤ 4 * l.length
  | [] => Nat.le_refl _
  | x :: l => by
    have h1 := blockS_le s sh l
    have h2 := codeS_le s (shX sh x)
    unfold blockS at *
    rw [List.flatMap_cons, List.length_append, List.length_cons]
    omega
theorem isCode_shX {x : Cd} {rn n : Int} {sh : Nat} (h : isCodeB x rn n = true) (hr : rn ≤ 200) (hn : n ≤ 100) (hs : sh ≤ 1) : isCodeB (shX sh x) 200 400 = true := by
  have hb := isCode_big h hr (show n ≤ 400 by omega)
  obtain ⟨_, _, _, _, _, _, _, ht, _⟩ := code_parts h
  unfold shX
  split
  · rename_i hf
    have := ht hf
    unfold isCodeB at hb ⊢
    simp only [Bool.and_eq_true] at hb ⊢
    refine ⟨hb.1, hb.2.1, hb.2.2.1, hb.2.2.2.1, ?_, hb.2.2.2.2.2⟩
    unfold wi
    rw [if_pos hf, Bool.and_eq_true]
    exact ⟨decide_eq_true (by omega), decide_eq_true (by omega)⟩
  · exact hb
theorem cdAt_set5 {w : World} {q : Nat} {x : Cd} (h : w.heap[q]? = some (.cells (cellsD x) 68 (0, 0))) (t : Int) : CdAt (w.setCell ⟨q, 5, none⟩ (.int .i64 t)) q 0 ⟨x.op, x.d, x.a, x.b, x.im, t⟩ := by
  have h2 := heap_setCell_same w q 5 _ _ (.int .i64 t) h
  exact ⟨cell_of_row _ q 0 _ _ _ h2, cell_of_row _ q 1 _ _ _ h2, cell_of_row _ q 2 _ _ _ h2, cell_of_row _ q 3 _ _ _ h2, cell_of_row _ q 4 _ _ _ h2, cell_of_row _ q 5 _ _ _ h2⟩
theorem outS_len (s : Seats) (ls : List (List Cd)) (l0 : List Int) : (outS s ls l0).length ≤ 1 + ls.length := by
  unfold outS
  rw [List.length_append, List.length_map]
  split <;> simp
theorem outS_row (s : Seats) {ls : List (List Cd)} {l0 : List Int} {m : Nat} (h : ∀ k, k < ls.length → (atB ls k).length ≤ m) (k : Nat) : (atB (outS s ls l0) k).length ≤ l0.length + 1 + 4 * m := by
  have hmem : ∀ l ∈ outS s ls l0, l.length ≤ l0.length + 1 + 4 * m := fun l hl => by
    unfold outS at hl
    rcases List.mem_append.1 hl with hl | hl
    · split at hl
      · cases hl
      · rw [List.mem_singleton] at hl
        subst hl
        have := begS_le s l0
        simp; omega
    · obtain ⟨y, hy, rfl⟩ := List.mem_map.1 hl
      obtain ⟨j, hj, rfl⟩ := List.getElem_of_mem hy
      have h1 := h j hj
      rw [atB_get hj] at h1
      have h2 := blockS_le s (shiftS s l0) ls[j]
      omega
  unfold atB
  rw [List.getD_eq_getElem?_getD]
  by_cases hk : k < (outS s ls l0).length
  · rw [List.getElem?_eq_getElem hk]; exact hmem _ (List.getElem_mem hk)
  · rw [List.getElem?_eq_none (by omega)]; simp
/-- How things stand ahead of block b. -/
def BlkRel (w : World) (sb ob rn : Nat) (bl : Option Addr) (cap : Nat) (ls : List (List Cd)) (a b c : Nat) (s : Seats) (places : Nat) (pre : List (List Cd)) (sh i : Nat) (wr : World) : Prop :=
  ∃ vB, ASt w wr w.heap.size sb ob rn s.k bl cap ls a b c s places vB (pre ++ (ls.take i).map (blockS s sh))
/-- How things stand inside a block. -/
def InsRel (wo : World) (s : Seats) (sh : Nat) (l : List Cd) (v : Value) (j : Nat) (wr : World) : Prop := wr.ownsRow wo.heap.size 68 6 v (blockS s sh (l.take j)).length (encC (blockS s sh (l.take j))) ∧ Below wo.heap.size wo wr
/-- What Allocate answers for a program and a number of registers that are right. -/
def AllPost (w : World) (ls : List (List Cd)) (L : List (List Int)) (k : Nat) (e : Ending) (w' : World) : Prop :=
  (∃ s places, s.k = k ∧ SeatOk s ls (tabI L) places ∧
    (if progErrW ((k : Int) + 2) (outS s ls (L.getD 0 [])) = 0 then ∃ aa cap, e = .returned (.tuple #[.agg #[.int .i64 ((k : Int) + 2), .slice aa (outS s ls (L.getD 0 [])).length cap], .int .i64 (places : Nat), .int .i64 0]) ∧ BlkIn w' aa (outS s ls (L.getD 0 []))
      else e = .returned (.tuple #[.agg #[.int .i64 0, .slice none 0 0], .int .i64 0, .int .i64 3]))) ∧ Below w.heap.size w w'
set_option maxRecDepth 100000 in
set_option maxHeartbeats 4000000 in
theorem Allocate_ok (rn k : Nat) (ls : List (List Cd)) (L : List (List Int)) (bl : Option Addr) (cap : Nat) (w : World) (hv : progErrW rn ls = 0) (hlm : ∀ k, k < ls.length → (atB ls k).length ≤ 100) (hln : ls.length ≤ 100) (him : ∀ b i, (atC (atB ls b) i).im < 4294967296) (hL : LiveOf ls rn L) (hin : BlkIn w bl ls) (hk : 1 ≤ k ∧ k ≤ 8) :
    Calls Try.prog 7 #[.agg #[.int .i64 (rn : Int), .slice bl ls.length cap], .int .i64 (k : Nat)] w (AllPost w ls L k) := by
  obtain ⟨hbig, hcode, _⟩ := prog_partsW hv
  have hb2 : rn ≤ 200 ∧ 1 ≤ ls.length ∧ ls.length ≤ 400 := by unfold tooBigW at hbig; omega
  have HI := Lib.hid hin
  have HVal := Lib.hid (fun u (h : BlkIn u bl ls) => ValidateW_any rn ls bl cap u h (by omega) (fun k hk => Nat.le_trans (hlm k hk) (by omega)))
  rw [hv] at HVal
  have HSeat := Lib.hid (fun u (h : BlkIn u bl ls) => seat_any rn k ls L bl cap u hv (fun k hk => Nat.le_trans (hlm k hk) (by omega)) him hL h hk.2)
  have HLive := Lib.hid (fun u (h : BlkIn u bl ls) => sLive_is rn ls L bl cap u h hv (fun k hk => Nat.le_trans (hlm k hk) (by omega)) hL)
  have HCode := Lib.hid hcode; have HLm := Lib.hid hlm
  have HLl : Hid (L.length = ls.length ∧ (L.getD 0 []).length ≤ 200) := Lib.hid ⟨hL.len, Nat.le_trans (hL.row 0) (by omega)⟩
  have HKv : Hid (∀ r ∈ L.getD 0 [], KV r) := Lib.hid fun r hr => by have := LiveOf.mem hL hr; exact ⟨this.1, by omega⟩
  clear hin hcode hlm hbig hv him hL
  have h0 : ((w.alloc (.cells #[.int .i64 (rn : Int), .slice bl ls.length cap] 24)).alloc (.cells #[.int .i64 0, .slice none 0 0] 24)).cell? ⟨w.heap.size, 0, none⟩ = some (.int .i64 (rn : Int)) := by simp [go_sem]
  have h1 : ((w.alloc (.cells #[.int .i64 (rn : Int), .slice bl ls.length cap] 24)).alloc (.cells #[.int .i64 0, .slice none 0 0] 24)).cell? ⟨w.heap.size, 1, none⟩ = some (.slice bl ls.length cap) := by simp [go_sem]
  have hr : ((w.alloc (.cells #[.int .i64 (rn : Int), .slice bl ls.length cap] 24)).alloc (.cells #[.int .i64 0, .slice none 0 0] 24)).heap[w.heap.size + 1]? = some (.cells #[.int .i64 0, .slice none 0 0] 24 (0, 0)) := by
    have := heap_alloc_new (w.alloc (.cells #[.int .i64 (rn : Int), .slice bl ls.length cap] 24)) (.cells #[.int .i64 0, .slice none 0 0] 24)
    simpa using this
  have hb : Below w.heap.size w ((w.alloc (.cells #[.int .i64 (rn : Int), .slice bl ls.length cap] 24)).alloc (.cells #[.int .i64 0, .slice none 0 0] 24)) := ((Below.refl _ _).alloc (Nat.le_refl _) _).alloc (by simp) _
  have hk1 : ¬ (k : Int) < 1 := by omega
  have hk8 : ¬ (8 : Int) < (k : Int) := by omega
  have HB0 := Lib.hid hb; have HR0 := Lib.hid hr
  clear hb hr
  go_enter Try.func7, Try.ntmps7
  go_upto_region 1 with (fail)
  generalize (w.alloc (.cells #[.int .i64 (rn : Int), .slice bl ls.length cap] 24)).alloc (.cells #[.int .i64 0, .slice none 0 0] 24) = w1 at *
  have HV1 := Lib.hid (HVal.out w1 (HI.out.below HB0.out))
  have HI1 := Lib.hid (HI.out.below HB0.out)
  have H0 := Lib.hid h0; have H1 := Lib.hid h1
  go_wp2_with fail
  refine HV1.out.mono ?_; rintro e w2 ⟨rfl, hb2⟩
  have p0 := keep h0 hb2; have p1 := keep h1 hb2
  have HI2 := Lib.hid (HI1.out.below hb2)
  have HB2 := Lib.hid (HB0.out.trans (hb2.mono HB0.out.size))
  have HR2 := Lib.hid ((hb2.block _ (lt_of_block HR0.out)).trans HR0.out)
  have H02 := Lib.hid p0; have H12 := Lib.hid p1
  have HS2 := Lib.hid (HSeat.out w2 HI2.out)
  clear h0 h1 hb2
  go_wp2_with fail
  refine HS2.out.mono ?_; rintro e w3 ⟨⟨v, s, places, rfl, hsi, hsk, hso⟩, hb3⟩
  obtain ⟨ma, mb, mc, rfl, hma, hmb, hmc⟩ := hsi.is
  subst hsk
  have HSo := Lib.hid hso
  have HSk : Hid (SeatsOk w3 (.agg #[.map (some ma), .map (some mb), .map (some mc), .int .i64 (s.k : Int)]) s places) := Lib.hid ⟨hsi, fun r c h => by have := hso.colR r c h; omega, fun r p h => by have := hso.frmR r p h; have := hso.big; omega, hk.2⟩
  have hz3 : w.heap.size + 2 ≤ w3.heap.size := by have := lt_of_block HR2.out; have := hb3.size; omega
  have S0 := Lib.hid (ASt.start (k := s.k) (w0 := w) (keep H02.out hb3) (keep H12.out hb3) ((hb3.block _ (lt_of_block HR2.out)).trans HR2.out) HSk.out HI.out (HB2.out.trans (hb3.mono HB2.out.size)) ⟨rfl, by omega, hma.lt, hmb.lt, hmc.lt⟩)
  clear hsi hso hb3 hma hmb hmc p0 p1
  go_upto_region 9 with (fail)
  generalize (w3.alloc (.cells #[.map (some ma), .map (some mb), .map (some mc), .int .i64 (s.k : Int)] 59)).alloc (.cells #[.int .i64 ((s.k : Int) + 2), .slice none 0 0] 24) = w4 at *
  obtain ⟨ob, hob⟩ : ∃ ob, w3.heap.size + 1 = ob := ⟨_, rfl⟩
  rw [hob] at S0 ⊢
  have HOb := Lib.hid hob
  clear hob
  generalize w3.heap.size = sb at *
  have p0 := S0.out.p0; have p1 := S0.out.p1
  have HLv := Lib.hid (HLive.out w4 S0.out.blk)
  go_wp2_with fail
  refine HLv.out.mono ?_; rintro e w5 ⟨⟨ia, ic, rfl, hrows⟩, hb5⟩
  have S1 := Lib.hid (S0.out.below hb5)
  have HRows := Lib.hid hrows
  obtain ⟨ib, ioff, la, lc, rfl, hic, hii⟩ := hrows 0 (by rw [HLl.out.1]; omega)
  rw [Nat.add_zero] at hic
  have hl0 : (0 : Int) < (L.length : Int) := by rw [HLl.out.1]; omega
  have hl0n : 0 < L.length := by omega
  have HIi := Lib.hid hii
  clear hrows hii hb5 p0 p1
  obtain ⟨l0, hl0e⟩ : ∃ l0, L.getD 0 [] = l0 := ⟨_, rfl⟩
  have HL0 := Lib.hid hl0e
  rw [hl0e] at hic HIi HLl HKv
  clear hl0e
  go_wp2_with fail
  have HAt := Lib.hid at_any
  have hl200 : l0.length ≤ 200 := HLl.out.2
  have HMb : Hid (MapN Try.prog 3 3 keyI litI KV w5 mb places s.frm) := Lib.hid (by
    obtain ⟨a', b', c', e, _, h2, _⟩ := S1.out.so.lie.is
    cases e; exact h2)
  clear hic
  go_loopw [51, 10] (fun i v wr => ∃ j : Nat, j ≤ l0.length ∧ i = .int .i64 j ∧ BegRel w5 s l0 v j wr) (fun i _ _ => l0.length - (intOf i).toNat)
  case atStart => exact ⟨0, Nat.zero_le _, rfl, owns_nil _ _ _ _, Below.refl _ _⟩
  case round =>
    obtain ⟨j, hj, rfl, ho, hlow⟩ := hrel
    by_cases hjl : j < l0.length
    · obtain ⟨kb, koff, rfl, hkc⟩ := HIi.out j hjl
      have hkc := keep hkc hlow
      have HSn := Lib.hid (begS_snoc s hjl)
      have hbl := begS_le s (l0.take j)
      have hji : (j : Int) < (l0.length : Int) := by omega
      have hKV := HKv.out (l0.getD j 0) (by rw [List.getD_eq_getElem?_getD, List.getElem?_eq_getElem hjl]; exact List.getElem_mem hjl)
      have HV := Lib.hid hKV
      have HMb2 := Lib.hid (HMb.out.at.below hlow)
      have S2 := Lib.hid (S1.out.below hlow)
      have s1 := S2.out.s1
      have HO := Lib.hid ho; have HLow := Lib.hid hlow
      rw [List.length_take] at hbl
      clear ho hlow hKV
      generalize hr : l0.getD j 0 = r at *
      clear hr
      cases hf : s.frm r with
      | none =>
        have HF := Lib.hid hf
        simp only [hf] at HSn
        go_wp2_with (at_lookup; refine wpList_getok_mapI _ rfl _ _ 56 rfl Try.underlying56 mb s.frm HMb2.out rfl r HV.out rfl HF.out ?_)
        go_roundw
        case rel => exact ⟨j + 1, by omega, by go_num, by rw [HSn.out, List.append_nil]; exact HO.out, HLow.out⟩
        case measure => simp [intOf]; omega
      | some p =>
        have HF := Lib.hid hf
        simp only [hf] at HSn
        obtain ⟨z, hz⟩ : ∃ z : Nat, z = 1024 + 4 * p.toNat := ⟨_, rfl⟩
        have HAp := Lib.hid (fun u => HAt.out p (by have := S2.out.so.frm r p hf; omega) u)
        rw [← hz] at HAp
        have HE : Hid (cSw s.k p = ⟨23, 0, -1, s.k, z, 0⟩) := Lib.hid (by unfold cSw; rw [hz])
        rw [HE.out] at HSn
        have HIy : Hid (CdsIn (wr.alloc (.cells #[.int .i64 (⟨23, 0, -1, s.k, z, 0⟩ : Cd).op, .int .i64 (⟨23, 0, -1, s.k, z, 0⟩ : Cd).d, .int .i64 (⟨23, 0, -1, s.k, z, 0⟩ : Cd).a, .int .i64 (⟨23, 0, -1, s.k, z, 0⟩ : Cd).b, .int .u32 (⟨23, 0, -1, s.k, z, 0⟩ : Cd).im, .int .i64 (⟨23, 0, -1, s.k, z, 0⟩ : Cd).to] 68)) (some ⟨wr.heap.size, 0, none⟩) [⟨23, 0, -1, s.k, z, 0⟩]) := Lib.hid (cds_one _ _)
        have HSm : Hid ((begS s (l0.take j)).length + [(⟨23, 0, -1, s.k, z, 0⟩ : Cd)].length ≤ 1000000) := Lib.hid (by have := HLl.out.2; simp; omega)
        have hba : Below wr.heap.size wr (wr.alloc (.cells #[.int .i64 (⟨23, 0, -1, s.k, z, 0⟩ : Cd).op, .int .i64 (⟨23, 0, -1, s.k, z, 0⟩ : Cd).d, .int .i64 (⟨23, 0, -1, s.k, z, 0⟩ : Cd).a, .int .i64 (⟨23, 0, -1, s.k, z, 0⟩ : Cd).b, .int .u32 (⟨23, 0, -1, s.k, z, 0⟩ : Cd).im, .int .i64 (⟨23, 0, -1, s.k, z, 0⟩ : Cd).to] 68)) := (Below.refl _ _).alloc (Nat.le_refl _) _
        have HO2 := Lib.hid (owns_below HO.out hba)
        have HLow2 := Lib.hid (HLow.out.trans (hba.mono HLow.out.size))
        have HLe : Hid (w5.heap.size ≤ (wr.alloc (.cells #[.int .i64 (⟨23, 0, -1, s.k, z, 0⟩ : Cd).op, .int .i64 (⟨23, 0, -1, s.k, z, 0⟩ : Cd).d, .int .i64 (⟨23, 0, -1, s.k, z, 0⟩ : Cd).a, .int .i64 (⟨23, 0, -1, s.k, z, 0⟩ : Cd).b, .int .u32 (⟨23, 0, -1, s.k, z, 0⟩ : Cd).im, .int .i64 (⟨23, 0, -1, s.k, z, 0⟩ : Cd).to] 68)).heap.size) := Lib.hid HLow2.out.size
        clear hf hz hba hbl
        go_wp2_with (at_lookup; refine wpList_getok_mapI _ rfl _ _ 56 rfl Try.underlying56 mb s.frm HMb2.out rfl r HV.out rfl HF.out ?_)
        refine (HAp.out _).mono ?_; rintro e w6 ⟨rfl, rfl⟩
        go_wp2_with (at_builtin; refine wpList_append_codes _ rfl _ _ rfl w5.heap.size _ _ rfl HO2.out _ 1 [⟨23, 0, -1, s.k, z, 0⟩] rfl HIy.out HSm.out HLe.out ?_; intro v7 w7 ho7 hg7; have HO7 := Lib.hid ho7; have HL7 := Lib.hid (HLow2.out.grown hg7 HLe.out (fun g hg => (owns_block HO2.out hg).1)); clear ho7 hg7)
        go_roundw
        case rel => exact ⟨j + 1, by omega, by go_num, by rw [HSn.out]; exact HO7.out, HL7.out⟩
        case measure => simp [intOf]; omega
    · obtain rfl : j = l0.length := by omega
      obtain ⟨va, vc, rfl⟩ := owns_shape ho
      have S2 := Lib.hid (S1.out.below hlow)
      rw [List.take_length] at ho
      have HO := Lib.hid ho; have HLow := Lib.hid hlow
      clear ho hlow
      rw [List.take_length]
      go_upto_if 73 with (fail)
      go_cut [17] from 71 to 129 (fun t17 wx => t17 = .int .i64 (shiftS s l0 : Nat) ∧ ∃ vB, ASt w wx w.heap.size sb ob rn s.k bl cap ls ma mb mc s places vB (preS s l0))
      case first =>
        by_cases hbe : begS s l0 = []
        · have hpre : preS s l0 = [] := if_pos hbe
          have hsh : shiftS s l0 = 0 := if_pos hbe
          have hbl : (begS s l0).length = 0 := by rw [hbe]; rfl
          have hbi : ¬ (0 : Int) < ((begS s l0).length : Int) := by omega
          clear hbl hbe
          go_wp2_with fail
          go_meet
          case rel => exact ⟨by rw [hsh]; rfl, _, by rw [hpre]; exact S2.out⟩
        · have hpre : preS s l0 = [begS s l0 ++ [cJmp]] := if_neg hbe
          have hsh : shiftS s l0 = 1 := if_neg hbe
          have hbl : 0 < (begS s l0).length := List.length_pos_iff.2 hbe
          have hbi : (0 : Int) < ((begS s l0).length : Int) := by omega
          have hble := begS_le s l0
          have o0 := cell_of_row wr ob 1 _ _ _ S2.out.out
          change wr.cell? ⟨ob, 1, none⟩ = some _ at o0
          have o0d : ({ wr with drawn := wr.drawn + 1 } : World).cell? ⟨ob, 1, none⟩ = some (.slice none 0 0) := o0
          obtain ⟨j0, hj, jp0, jp1, jp2⟩ := info_parts Try.infoCodes
          obtain ⟨m0, hm, mp0, mp1, mp2⟩ := info_parts Try.infoCode
          have hob5 : ob < w5.heap.size := S1.out.olt
          have hlw := HLow.out.size
          have hb6 : Below wr.heap.size wr ((wr.alloc (.cells #[.int .i64 24, .int .i64 0, .int .i64 0, .int .i64 0, .int .u32 0, .int .i64 1] 68)).drew) := below_drew1 ((Below.refl _ _).alloc (Nat.le_refl _) _)
          have HOx := Lib.hid (owns_below HO.out hb6)
          have HNx : Hid (∀ j u, [Value.int .i64 24, .int .i64 0, .int .i64 0, .int .i64 0, .int .u32 0, .int .i64 1][j]? = some u → ((wr.alloc (.cells #[.int .i64 24, .int .i64 0, .int .i64 0, .int .i64 0, .int .u32 0, .int .i64 1] 68)).drew).cell? ((⟨wr.heap.size, 0, none⟩ : Addr).add j) = some u) := Lib.hid (cell_six_at _ _ _ _ _ _ _ _)
          have HSa : Hid ((begS s l0).length + 1 ≤ maxLen) := Lib.hid (by unfold maxLen; omega)
          have HSb : Hid (((begS s l0).length + 1) * 48 ≤ 140737488355328) := Lib.hid (by omega)
          have HSc : Hid (w5.heap.size ≤ ((wr.alloc (.cells #[.int .i64 24, .int .i64 0, .int .i64 0, .int .i64 0, .int .u32 0, .int .i64 1] 68)).drew).heap.size) := Lib.hid (by have := hb6.size; omega)
          have o6 := keep o0 hb6
          have HO6 := Lib.hid o6
          have HX6 := Lib.hid ((hb6.block ob S2.out.olt).trans S2.out.out)
          have HB6 := Lib.hid hb6
          clear hb6 o0d
          go_wp2_with fail
          go_region_law? (first | (refine step_append_lies _ rfl _ _ _ rfl w5.heap.size 68 m0 _ 6 48 Try.underCodes hm mp0 mp1 mp2 rfl (by decide) _ _ _ rfl HOx.out ⟨wr.heap.size, 0, none⟩ 1 1 [.int .i64 24, .int .i64 0, .int .i64 0, .int .i64 0, .int .u32 0, .int .i64 1] rfl rfl HNx.out (one_six _ _ _ _ _ _) (by decide) HSa.out HSb.out HSc.out _ rfl ?_; intro g7 c7 w7 ho7 hg7 hat7 hl7; have o7 := cell_kept HO6.out hg7 (by intro e; have := (owns_block HOx.out e.symm).1; omega); have HG7 := Lib.hid hg7; have HW7 := Lib.hid ho7; have HA7 := Lib.hid hat7; have HO7 := Lib.hid o7; have o8 := keep o7 ((Below.refl w7.heap.size w7).alloc (Nat.le_refl _) (.cells #[.slice (some ⟨g7, 0, none⟩) ((begS s l0).length + 1) c7] 48)); have HX7 := Lib.hid ((hg7.block ob (lt_of_block HX6.out) (by intro e; have := (owns_block HOx.out e.symm).1; omega)).trans HX6.out); have HSd : Hid (ob + 1 ≤ (w7.alloc (.cells #[.slice (some ⟨g7, 0, none⟩) ((begS s l0).length + 1) c7] 48)).heap.size) := Lib.hid (by have := hg7.size; have := HSc.out; simp; omega); clear ho7 hg7 hat7) | (refine step_append_lies _ rfl _ _ _ rfl (ob + 1) 48 j0 _ 1 24 Try.underlying22 hj jp0 jp1 jp2 rfl (by decide) _ _ _ rfl (owns_nil _ _ _ _) ⟨w7.heap.size, 0, none⟩ 1 1 [.slice (some ⟨g7, 0, none⟩) ((begS s l0).length + 1) c7] rfl rfl (cell_one_at _ _ _) (by simp [Value.oneCell']) (by decide) (by decide) (by decide) HSd.out _ rfl ?_; intro g9 c9 w9 ho9 hg9 hat9 hl9; have hx9 : w9.heap[ob]? = some (.cells #[.int .i64 ((s.k : Int) + 2), .slice none 0 0] 24 (0, 0)) := (hg9.block ob (by have := HSd.out; omega) (show some ob ≠ none from by simp)).trans ((Below.heap_alloc w7 _ ob (lt_of_block HX7.out)).trans HX7.out); have o9 := cell_of_row w9 ob 1 _ _ _ hx9; have f9 := frozen_of_row w9 ob 1 _ _ hx9; have HX9 := Lib.hid hx9; have HW9 := Lib.hid ho9; have HG9 := Lib.hid hg9; have HA9 := Lib.hid hat9; clear hx9 ho9 hg9 hat9; change w9.cell? ⟨ob, 1, none⟩ = some _ at o9))
          all_goals go_wp2_with fail
          all_goals go_meet
          all_goals exact ⟨by rw [hsh]; rfl, _, by rw [hpre]; exact beg_done S2.out hob5 HB6.out HOx.out HG7.out HW7.out HG9.out HW9.out (by rcases HA9.out with e | e; exact absurd (show (none : Option Nat) = some _ from e) (by simp); exact e)⟩
      case rest =>
        obtain ⟨rfl, vB, hst⟩ := hcut
        obtain ⟨w6, rfl⟩ : ∃ w6, w6 = wc := ⟨_, rfl⟩
        have HSt := Lib.hid hst
        have p1 := hst.p1
        have HSh : Hid (shiftS s l0 ≤ 1) := Lib.hid (by unfold shiftS; split <;> omega)
        obtain ⟨sh, hshe⟩ : ∃ sh, shiftS s l0 = sh := ⟨_, rfl⟩
        have HShe := Lib.hid hshe
        rw [hshe] at HSh ⊢
        have hsh1 : sh ≤ 1 := HSh.out
        clear hst hshe HO HLow S2 HIi HRows HMb HLv S0 S1 HSeat HS2 H02 H12 HR2 HB2 HI2 H0 H1 HI1 HV1 HR0 HB0
        go_wp2_with fail
        clear p1
        go_loopw [86] (fun i wr => ∃ b : Nat, b ≤ ls.length ∧ i = .int .i64 b ∧ BlkRel w sb ob rn bl cap ls ma mb mc s places (preS s l0) sh b wr) (fun i _ => ls.length - (intOf i).toNat)
        case atStart => exact ⟨0, Nat.zero_le _, rfl, vB, by simpa using HSt.out⟩
        case round =>
          obtain ⟨b, hb, rfl, vB, hst⟩ := hrel
          obtain ⟨wo, rfl⟩ : ∃ wo, wo = wr := ⟨_, rfl⟩
          have HSt := Lib.hid hst
          by_cases hlt : b < ls.length
          rotate_left
          · obtain rfl : b = ls.length := by omega
            have hQ : preS s l0 ++ (ls.take ls.length).map (blockS s sh) = outS s ls l0 := by
              rw [List.take_length, ← HShe.out]; rfl
            rw [hQ] at hst
            have HSt := Lib.hid hst
            obtain ⟨oa, oc, rfl, hblk⟩ := hst.rows.blk
            have HBk := Lib.hid hblk
            have o0 := cell_of_row wo ob 0 _ _ _ hst.out
            have o1 := cell_of_row wo ob 1 _ _ _ hst.out
            change wo.cell? ⟨ob, 0, none⟩ = some _ at o0
            change wo.cell? ⟨ob, 1, none⟩ = some _ at o1
            have HV2 := Lib.hid (ValidateW_any ((s.k : Int) + 2) (outS s ls l0) oa oc wo hblk (by
              have := outS_len s ls l0; omega) (fun k _ => by
              have := outS_row s (ls := ls) (l0 := l0) (m := 100) (fun k hk => HLm.out k hk) k; omega))
            have O0 := Lib.hid o0; have O1 := Lib.hid o1
            clear hst hblk
            generalize hpe : progErrW ((s.k : Int) + 2) (outS s ls l0) = pe at *
            have HPe := Lib.hid hpe
            clear hpe
            go_wp2_with fail
            refine HV2.out.mono ?_; rintro e w8 ⟨rfl, hb8⟩
            have S8 := Lib.hid (HSt.out.below hb8)
            have HBk8 := Lib.hid (HBk.out.below hb8)
            have hth := there_row2 S8.out.res
            have HTh := Lib.hid hth
            have k0 := keep o0 hb8; have k1 := keep o1 hb8
            clear hb8 o0 o1 hth
            have HSet : Hid (∀ x y W, w8.setCells (w.heap.size + 1) 0 #[x, y].toList = W → W.heap[w.heap.size + 1]? = some (.cells #[x, y] 24 (0, 0)) ∧ Save (w.heap.size + 1) w8 W) := Lib.hid (by
              rintro x y W rfl
              exact ⟨set_row2 S8.out.res _ _, save_row2 _ _ _ _⟩)
            have HRows8 : Hid (CRowsOwn w8 (ob + 1) (.slice oa (outS s ls l0).length oc) (outS s ls l0)) := Lib.hid S8.out.rows
            have HMb8 : Hid (MapN Try.prog 3 3 keyI litI KV w8 mb places s.frm) := Lib.hid (by
              obtain ⟨a', b', c', e, _, h2, _⟩ := S8.out.so.lie.is
              cases e; exact h2)
            have HLow8 := Lib.hid S8.out.low
            have HOrd := Lib.hid S8.out.ord
            have s1 := S8.out.s1
            by_cases h0 : pe = 0
            · subst h0
              go_wp2_with (first | (at_len; refine wpList_len_map _ rfl _ 56 rfl Try.underlying56 mb places s.frm HMb8.out rfl ?_) | (refine wpList_store_mid rfl 24 _ _ rfl (w.heap.size + 1) 0 #[.int .i64 ((s.k : Int) + 2), .slice oa (outS s ls l0).length oc] rfl rfl HTh.out sizePg (oneP _ _ _ _) ?_; generalize hw4 : World.setCells _ _ _ _ = w4; obtain ⟨hr4, hs4⟩ := HSet.out _ _ _ hw4; have HR4 := Lib.hid hr4; have HS4 := Lib.hid hs4; clear hw4 hr4 hs4))
              (try simp only [Exit.inBlock, Exit.then])
              refine bodyPost_ret (results_cell_tmp2 rfl _ w4 (w.heap.size + 1) 24 _ _ _ rfl HR4.out Try.underlying24 rfl sizePg) rfl ?_
              have hr5 := HRows8.out.saveB HS4.out (by have := HOrd.out; omega)
              obtain ⟨va, vc, e, hblk⟩ := hr5.blk
              cases e
              refine ⟨⟨s, places, rfl, HSo.out, ?_⟩, HLow8.out.trans (HS4.out.below (by omega) HLow8.out.size)⟩
              rw [HL0.out, if_pos HPe.out]
              exact ⟨_, _, rfl, hblk⟩
            · go_wp2_with (refine wpList_store_mid rfl 24 _ _ rfl (w.heap.size + 1) 0 #[.int .i64 0, .slice none 0 0] rfl rfl HTh.out sizePg (oneP _ _ _ _) ?_; generalize hw4 : World.setCells _ _ _ _ = w4; obtain ⟨hr4, hs4⟩ := HSet.out _ _ _ hw4; have HR4 := Lib.hid hr4; have HS4 := Lib.hid hs4; clear hw4 hr4 hs4)
              (try simp only [Exit.inBlock, Exit.then])
              refine bodyPost_ret (results_cell_tmp2 rfl _ w4 (w.heap.size + 1) 24 _ _ _ rfl HR4.out Try.underlying24 rfl sizePg) rfl ?_
              refine ⟨⟨s, places, rfl, HSo.out, ?_⟩, HLow8.out.trans (HS4.out.below (by omega) HLow8.out.size)⟩
              rw [HL0.out, if_neg (by rw [HPe.out]; exact h0)]
              rfl
          have hbi : (b : Int) < (ls.length : Int) := by omega
          have hlb := HLm.out b hlt
          obtain ⟨cb, coff, ca, cc, hbe, hcell, hcds⟩ := hst.blk b hlt
          have HCds := Lib.hid hcds
          subst hbe
          clear hst hcds
          generalize hm : (atB ls b).length = m at *
          have HM := Lib.hid hm; clear hm
          go_wp2_with fail
          clear hcell
          go_loopw [92, 20] (fun i v wr => ∃ j : Nat, j ≤ m ∧ i = .int .i64 j ∧ InsRel wo s sh (atB ls b) v j wr) (fun i _ _ => m - (intOf i).toNat)
          case atStart => exact ⟨0, Nat.zero_le _, rfl, owns_nil _ _ _ _, Below.refl _ _⟩
          case round =>
            obtain ⟨j, hj, rfl, ho, hlow⟩ := hrel
            by_cases hjl : j < m
            rotate_left
            · obtain rfl : j = m := by omega
              rw [List.take_of_length_le (by rw [HM.out]; exact Nat.le_refl _)] at ho
              obtain ⟨pa, pc, rfl, hpl, hpn, hpd, hpb⟩ := codes_part ho
              have HStw := Lib.hid (HSt.out.below hlow)
              obtain ⟨vals, hov, hra⟩ := HStw.out.rows
              have HOv := Lib.hid hov; have HRa := Lib.hid hra
              have HPb := Lib.hid hpb; have HPd := Lib.hid hpd; have HPn := Lib.hid hpn; have HPl := Lib.hid hpl
              have hqo : ob < wo.heap.size ∧ wo.heap.size ≤ wr.heap.size := ⟨HSt.out.olt, hlow.size⟩
              have HHv : Hid (∀ g, vB.ownBlock = some g → g < wo.heap.size) := Lib.hid fun g e => by
                obtain ⟨_, h1, _⟩ := HSt.out.rows
                exact (owns_block h1 e).2
              obtain ⟨oa, oc, rfl⟩ := owns_shape hov
              have hql : (preS s l0 ++ (ls.take b).map (blockS s sh)).length ≤ 1000 := by
                have : (preS s l0).length ≤ 1 := by unfold preS; split <;> simp
                simp only [List.length_append, List.length_map, List.length_take]; omega
              have HNext : Hid (preS s l0 ++ (ls.take (b + 1)).map (blockS s sh) = (preS s l0 ++ (ls.take b).map (blockS s sh)) ++ [blockS s sh (atB ls b)]) := Lib.hid (by
                rw [List.take_succ_eq_append_getElem hlt, List.map_append, atB_get hlt, List.append_assoc]; rfl)
              obtain ⟨j0, hj0, jp0, jp1, jp2⟩ := info_parts Try.infoCodes
              have o1 := cell_of_row wr ob 1 _ _ _ HStw.out.out
              change wr.cell? ⟨ob, 1, none⟩ = some _ at o1
              generalize hQ : preS s l0 ++ (ls.take b).map (blockS s sh) = Q at *
              have HQ := Lib.hid hQ
              clear hQ
              generalize hlq : blockS s sh (atB ls b) = l' at *
              clear hlq
              have HOv6 := Lib.hid (owns_below hov ((Below.refl wr.heap.size wr).alloc (Nat.le_refl _) (.cells #[.slice pa l'.length pc] 48)))
              have HS63 : Hid (Q.length + 1 ≤ maxLen) := Lib.hid (by unfold maxLen; omega)
              have HSb : Hid ((Q.length + 1) * 24 ≤ 140737488355328) := Lib.hid (by omega)
              have HZ6 : Hid (ob + 1 ≤ (wr.alloc (.cells #[.slice pa l'.length pc] 48)).heap.size) := Lib.hid (by simp; omega)
              clear ho hlow hov hra hpl hpn hpd hpb
              go_wp2_with (at_builtin; refine wpList_append_own_at _ rfl _ _ 22 rfl (ob + 1) 48 j0 (.slice none 0 0) 1 24 Try.underlying22 hj0 jp0 jp1 jp2 rfl (by decide) _ _ _ rfl HOv6.out ⟨wr.heap.size, 0, none⟩ 1 1 [.slice pa l'.length pc] rfl rfl (cell_one_at _ _ _) (by simp [Value.oneCell']) HS63.out HSb.out HZ6.out ?_; intro v9 w9 ho9 hg9 _ hat9; obtain ⟨v9a, v9c, rfl⟩ := owns_shape ho9; have HO9 := Lib.hid ho9; have HG9 := Lib.hid hg9; have HA9 := Lib.hid hat9; have hx9 := (hg9.block ob (by have := HZ6.out; omega) (fun e => by have := (owns_block HOv6.out e.symm).1; omega)).trans ((Below.heap_alloc wr _ ob HStw.out.olt).trans HStw.out.out); have o9 := cell_of_row w9 ob 1 _ _ _ hx9; have f9 := frozen_of_row w9 ob 1 _ _ hx9; clear ho9 hg9 hat9 hx9; change w9.cell? ⟨ob, 1, none⟩ = some _ at o9)
              go_roundw
              case rel => exact ⟨b + 1, by omega, by go_num, _, by rw [HNext.out]; exact out_done HStw.out HOv.out HRa.out HO9.out HG9.out HA9.out HPd.out HPl.out HPn.out (fun b' off e => ⟨by have := (HPb.out b' off e).1; omega, (HPb.out b' off e).2, fun e2 => by have := HHv.out b' e2.symm; have := (HPb.out b' off e).1; omega⟩)⟩
              case measure => simp [intOf]; omega
            obtain ⟨xb, xoff, hxe, hx⟩ := HCds.out j (by rw [HM.out]; exact hjl)
            have hx' : CdAt wr xb (xoff + j * 6) (atC (atB ls b) j) := hx.keep hlow
            have HX := Lib.hid (isCode_shX (HCode.out b j hlt (by rw [HM.out]; exact hjl)) (by omega) (by omega) hsh1)
            have HTo : Hid (fT (atC (atB ls b) j).op = true → 0 ≤ (atC (atB ls b) j).to ∧ (atC (atB ls b) j).to < (ls.length : Int)) := Lib.hid (code_parts (HCode.out b j hlt (by rw [HM.out]; exact hjl))).2.2.2.2.2.2.2.1
            have HSn := Lib.hid (blockS_snoc s sh (l := atB ls b) (by rw [HM.out]; exact hjl))
            have hble := blockS_le s sh ((atB ls b).take j)
            have htl : ((atB ls b).take j).length ≤ j := by rw [List.length_take]; omega
            have hce := codeS_le s (shX sh (atC (atB ls b) j))
            have HStw := Lib.hid (HSt.out.below hlow)
            have HO := Lib.hid ho; have HLow := Lib.hid hlow
            have hji : (j : Int) < (m : Int) := by omega
            subst hxe
            clear hx ho hlow
            generalize atC (atB ls b) j = x at *
            obtain ⟨x0, x1, x2, x3, x4, x5⟩ := hx'
            go_upto_region 28 with (fail)
            have hbx : Below wr.heap.size wr (wr.alloc (.cells #[.int .i64 x.op, .int .i64 x.d, .int .i64 x.a, .int .i64 x.b, .int .u32 x.im, .int .i64 x.to] 68)) := (Below.refl _ _).alloc (Nat.le_refl _) _
            have HSx := Lib.hid (HStw.out.below hbx); have HOx := Lib.hid (owns_below HO.out hbx); have HLx := Lib.hid (HLow.out.trans (hbx.mono HLow.out.size))
            have HXb : Hid ((wr.alloc (.cells #[.int .i64 x.op, .int .i64 x.d, .int .i64 x.a, .int .i64 x.b, .int .u32 x.im, .int .i64 x.to] 68)).heap[wr.heap.size]? = some (.cells (cellsD x) 68 (0, 0))) := Lib.hid (heap_alloc_new _ _)
            have HXx := Lib.hid (cdAt_new wr x 68)
            have hqo : ob < wr.heap.size ∧ wo.heap.size ≤ wr.heap.size := ⟨HStw.out.olt, HLow.out.size⟩
            have HSv : Hid (∀ v, ASt w ((wr.alloc (.cells #[.int .i64 x.op, .int .i64 x.d, .int .i64 x.a, .int .i64 x.b, .int .u32 x.im, .int .i64 x.to] 68)).setCell ⟨wr.heap.size, 5, none⟩ v) w.heap.size sb ob rn s.k (some ⟨cb, coff, none⟩) cap ls ma mb mc s places vB (preS s l0 ++ (ls.take b).map (blockS s sh))) := Lib.hid fun v => HStw.out.below (hbx.setCell (Nat.le_refl _) v)
            have HOv : Hid (∀ v, ((wr.alloc (.cells #[.int .i64 x.op, .int .i64 x.d, .int .i64 x.a, .int .i64 x.b, .int .u32 x.im, .int .i64 x.to] 68)).setCell ⟨wr.heap.size, 5, none⟩ v).ownsRow wo.heap.size 68 6 _ _ _) := Lib.hid fun v => owns_below HO.out (hbx.setCell (Nat.le_refl _) v)
            have HLv : Hid (∀ v, Below wo.heap.size wo ((wr.alloc (.cells #[.int .i64 x.op, .int .i64 x.d, .int .i64 x.a, .int .i64 x.b, .int .u32 x.im, .int .i64 x.to] 68)).setCell ⟨wr.heap.size, 5, none⟩ v)) := Lib.hid fun v => HLow.out.trans ((hbx.setCell (Nat.le_refl _) v).mono HLow.out.size)
            have HXv : Hid (∀ t, CdAt ((wr.alloc (.cells #[.int .i64 x.op, .int .i64 x.d, .int .i64 x.a, .int .i64 x.b, .int .u32 x.im, .int .i64 x.to] 68)).setCell ⟨wr.heap.size, 5, none⟩ (.int .i64 t)) wr.heap.size 0 ⟨x.op, x.d, x.a, x.b, x.im, t⟩) := Lib.hid fun t => cdAt_set5 HXb.out t
            clear x0 x1 x2 x3 x4 x5 hbx
            generalize wr.alloc (.cells #[.int .i64 x.op, .int .i64 x.d, .int .i64 x.a, .int .i64 x.b, .int .u32 x.im, .int .i64 x.to] 68) = wx at *
            generalize wr.heap.size = qx at *
            obtain ⟨x0, x1, x2, x3, x4, x5⟩ := HXx.out
            simp only [Nat.zero_add] at x1 x2 x3 x4 x5
            by_cases h24 : x.op = 24
            · have hsx : shX sh x = ⟨x.op, x.d, x.a, x.b, x.im, x.to + sh⟩ := by unfold shX; rw [if_pos]; unfold fT; simp [h24]
              have hto := HTo.out (by unfold fT; simp [h24])
              have e24 : (x.op == 24) = true := by simp [h24]
              clear h24
              have f5 := frozen_of_row wx qx 5 _ _ HXb.out
              go_upto_region 30 with (fail)
              have SQ := Lib.hid (HSv.out (.int .i64 (x.to + sh))); have OQ := Lib.hid (HOv.out (.int .i64 (x.to + sh))); have LQ := Lib.hid (HLv.out (.int .i64 (x.to + sh)))
              have XQ := Lib.hid (HXv.out (x.to + sh))
              clear x0 x1 x2 x3 x4 x5 f5
              generalize wx.setCell ⟨qx, 5, none⟩ (.int .i64 (x.to + sh)) = wq at *
              rw [hsx] at HX HSn hce
              have HCa := Lib.hid (codeS_any _ s places ⟨x.op, x.d, x.a, x.b, x.im, x.to + sh⟩ wq SQ.out.so HX.out)
              have s0 := SQ.out.s0; have s1 := SQ.out.s1; have s2 := SQ.out.s2; have s3 := SQ.out.s3
              obtain ⟨z0, z1, z2, z3, z4, z5⟩ := XQ.out
              simp only [Nat.zero_add] at z1 z2 z3 z4 z5
              go_wp2_with fail
              refine HCa.out.mono ?_; rintro e w8 ⟨⟨vc8, rfl, ho8⟩, hb8⟩
              obtain ⟨ca8, cc8, rfl, _, _, hcd8, _⟩ := codes_part ho8
              have HCd8 := Lib.hid hcd8
              have HO8 := Lib.hid (owns_below OQ.out hb8)
              have HL8 := Lib.hid (LQ.out.trans (hb8.mono LQ.out.size))
              have HSm8 : Hid ((blockS s sh ((atB ls b).take j)).length + (codeS s ⟨x.op, x.d, x.a, x.b, x.im, x.to + sh⟩).length ≤ 1000000) := Lib.hid (by omega)
              clear ho8 hcd8 hb8 s0 s1 s2 s3 z0 z1 z2 z3 z4 z5
              go_wp2_with (at_builtin; refine wpList_append_codes _ rfl _ _ rfl wo.heap.size _ _ rfl HO8.out ca8 cc8 (codeS s ⟨x.op, x.d, x.a, x.b, x.im, x.to + sh⟩) rfl HCd8.out HSm8.out HL8.out.size ?_; intro v9 w9 ho9 hg9; have HO9 := Lib.hid ho9; have HL9 := Lib.hid (HL8.out.grown hg9 HL8.out.size (fun g hg => (owns_block HO8.out hg).1)); clear ho9 hg9)
              go_roundw
              case rel => exact ⟨j + 1, by omega, by go_num, by rw [HSn.out]; exact HO9.out, HL9.out⟩
              case measure => simp [intOf]; omega
            have e24 : (x.op == 24) = false := by simp [h24]
            by_cases h25 : x.op = 25
            · have hsx : shX sh x = ⟨x.op, x.d, x.a, x.b, x.im, x.to + sh⟩ := by unfold shX; rw [if_pos]; unfold fT; simp [h25]
              have hto := HTo.out (by unfold fT; simp [h25])
              have e25 : (x.op == 25) = true := by simp [h25]
              clear h25
              have f5 := frozen_of_row wx qx 5 _ _ HXb.out
              go_upto_region 30 with (fail)
              have SQ := Lib.hid (HSv.out (.int .i64 (x.to + sh))); have OQ := Lib.hid (HOv.out (.int .i64 (x.to + sh))); have LQ := Lib.hid (HLv.out (.int .i64 (x.to + sh)))
              have XQ := Lib.hid (HXv.out (x.to + sh))
              clear x0 x1 x2 x3 x4 x5 f5
              generalize wx.setCell ⟨qx, 5, none⟩ (.int .i64 (x.to + sh)) = wq at *
              rw [hsx] at HX HSn hce
              have HCa := Lib.hid (codeS_any _ s places ⟨x.op, x.d, x.a, x.b, x.im, x.to + sh⟩ wq SQ.out.so HX.out)
              have s0 := SQ.out.s0; have s1 := SQ.out.s1; have s2 := SQ.out.s2; have s3 := SQ.out.s3
              obtain ⟨z0, z1, z2, z3, z4, z5⟩ := XQ.out
              simp only [Nat.zero_add] at z1 z2 z3 z4 z5
              go_wp2_with fail
              refine HCa.out.mono ?_; rintro e w8 ⟨⟨vc8, rfl, ho8⟩, hb8⟩
              obtain ⟨ca8, cc8, rfl, _, _, hcd8, _⟩ := codes_part ho8
              have HCd8 := Lib.hid hcd8
              have HO8 := Lib.hid (owns_below OQ.out hb8)
              have HL8 := Lib.hid (LQ.out.trans (hb8.mono LQ.out.size))
              have HSm8 : Hid ((blockS s sh ((atB ls b).take j)).length + (codeS s ⟨x.op, x.d, x.a, x.b, x.im, x.to + sh⟩).length ≤ 1000000) := Lib.hid (by omega)
              clear ho8 hcd8 hb8 s0 s1 s2 s3 z0 z1 z2 z3 z4 z5
              go_wp2_with (at_builtin; refine wpList_append_codes _ rfl _ _ rfl wo.heap.size _ _ rfl HO8.out ca8 cc8 (codeS s ⟨x.op, x.d, x.a, x.b, x.im, x.to + sh⟩) rfl HCd8.out HSm8.out HL8.out.size ?_; intro v9 w9 ho9 hg9; have HO9 := Lib.hid ho9; have HL9 := Lib.hid (HL8.out.grown hg9 HL8.out.size (fun g hg => (owns_block HO8.out hg).1)); clear ho9 hg9)
              go_roundw
              case rel => exact ⟨j + 1, by omega, by go_num, by rw [HSn.out]; exact HO9.out, HL9.out⟩
              case measure => simp [intOf]; omega
            have e25 : (x.op == 25) = false := by simp [h25]
            have hsx : shX sh x = x := by unfold shX; rw [if_neg]; unfold fT; simp [h24, h25]
            have SQ := HSx; have OQ := HOx; have LQ := HLx
            have XQ : Hid (CdAt wx qx 0 (shX sh x)) := Lib.hid (by rw [hsx]; exact HXx.out)
            clear h24 h25
            rw [hsx] at XQ HX HSn hce
            have HCa := Lib.hid (codeS_any _ s places x wx SQ.out.so HX.out)
            have s0 := SQ.out.s0; have s1 := SQ.out.s1; have s2 := SQ.out.s2; have s3 := SQ.out.s3
            obtain ⟨z0, z1, z2, z3, z4, z5⟩ := XQ.out
            simp only [Nat.zero_add] at z1 z2 z3 z4 z5
            go_wp2_with fail
            refine HCa.out.mono ?_; rintro e w8 ⟨⟨vc8, rfl, ho8⟩, hb8⟩
            obtain ⟨ca8, cc8, rfl, _, _, hcd8, _⟩ := codes_part ho8
            have HCd8 := Lib.hid hcd8
            have HO8 := Lib.hid (owns_below OQ.out hb8)
            have HL8 := Lib.hid (LQ.out.trans (hb8.mono LQ.out.size))
            have HSm8 : Hid ((blockS s sh ((atB ls b).take j)).length + (codeS s x).length ≤ 1000000) := Lib.hid (by omega)
            clear ho8 hcd8 hb8 s0 s1 s2 s3 z0 z1 z2 z3 z4 z5
            go_wp2_with (at_builtin; refine wpList_append_codes _ rfl _ _ rfl wo.heap.size _ _ rfl HO8.out ca8 cc8 (codeS s x) rfl HCd8.out HSm8.out HL8.out.size ?_; intro v9 w9 ho9 hg9; have HO9 := Lib.hid ho9; have HL9 := Lib.hid (HL8.out.grown hg9 HL8.out.size (fun g hg => (owns_block HO8.out hg).1)); clear ho9 hg9)
            go_roundw
            case rel => exact ⟨j + 1, by omega, by go_num, by rw [HSn.out]; exact HO9.out, HL9.out⟩
            case measure => simp [intOf]; omega
end Go.Proofs.Ytjfpaelmcepidaa.PK
namespace Go.Proofs.Ytjfpaelmcepidaa.PK
open Go.RowKit Go.Maps

/-- Allocate's answer at an error. -/
def ErrPost (v : Int) (w : World) (e : Ending) (w' : World) : Prop := e = .returned (.tuple #[.agg #[.int .i64 0, .slice none 0 0], .int .i64 0, .int .i64 v]) ∧ Below w.heap.size w w'
theorem save_two {w w1 : World} (x y : Value) (h : w1.heap[w.heap.size + 1]? = some (.cells #[.int .i64 0, .slice none 0 0] 24 (0, 0))) (hb : Below w.heap.size w w1) :
    Hid (∀ W, w1.setCells (w.heap.size + 1) 0 #[x, y].toList = W → W.heap[w.heap.size + 1]? = some (.cells #[x, y] 24 (0, 0)) ∧ Below w.heap.size w W) := Lib.hid (by
  rintro W rfl
  exact ⟨set_row2 h _ _, hb.trans ((save_row2 _ _ _ _).below (by omega) hb.size)⟩)
set_option maxRecDepth 100000 in
set_option maxHeartbeats 4000000 in
theorem Allocate_err (regs K : Int) (ls : List (List Cd)) (bl : Option Addr) (cap : Nat) (w : World) (hv : progErrW regs ls ≠ 0) (hl : ls.length ≤ 9223372036854775807) (hlm : ∀ k, k < ls.length → (atB ls k).length ≤ 9223372036854775807) (hin : BlkIn w bl ls) :
    Calls Try.prog 7 #[.agg #[.int .i64 regs, .slice bl ls.length cap], .int .i64 K] w (ErrPost (progErrW regs ls) w) := by
  have HI := Lib.hid hin
  have HVal := Lib.hid (fun u (h : BlkIn u bl ls) => ValidateW_any regs ls bl cap u h hl hlm)
  generalize progErrW regs ls = pe at *
  have h0 : ((w.alloc (.cells #[.int .i64 regs, .slice bl ls.length cap] 24)).alloc (.cells #[.int .i64 0, .slice none 0 0] 24)).cell? ⟨w.heap.size, 0, none⟩ = some (.int .i64 regs) := by simp [go_sem]
  have h1 : ((w.alloc (.cells #[.int .i64 regs, .slice bl ls.length cap] 24)).alloc (.cells #[.int .i64 0, .slice none 0 0] 24)).cell? ⟨w.heap.size, 1, none⟩ = some (.slice bl ls.length cap) := by simp [go_sem]
  have hr : ((w.alloc (.cells #[.int .i64 regs, .slice bl ls.length cap] 24)).alloc (.cells #[.int .i64 0, .slice none 0 0] 24)).heap[w.heap.size + 1]? = some (.cells #[.int .i64 0, .slice none 0 0] 24 (0, 0)) := by
    have := heap_alloc_new (w.alloc (.cells #[.int .i64 regs, .slice bl ls.length cap] 24)) (.cells #[.int .i64 0, .slice none 0 0] 24)
    simpa using this
  have hb : Below w.heap.size w ((w.alloc (.cells #[.int .i64 regs, .slice bl ls.length cap] 24)).alloc (.cells #[.int .i64 0, .slice none 0 0] 24)) := ((Below.refl _ _).alloc (Nat.le_refl _) _).alloc (by simp) _
  have HB0 := Lib.hid hb; have HR0 := Lib.hid hr
  have hne : (pe != 0) = true := bne_iff_ne.2 hv
  clear hb hr hin hl hlm hv
  generalize ls.length = ln at *
  go_enter Try.func7, Try.ntmps7
  go_upto_region 1 with (fail)
  generalize (w.alloc (.cells #[.int .i64 regs, .slice bl ln cap] 24)).alloc (.cells #[.int .i64 0, .slice none 0 0] 24) = w1 at *
  have HV1 := Lib.hid (HVal.out w1 (HI.out.below HB0.out))
  go_wp2_with fail
  refine HV1.out.mono ?_; rintro e w2 ⟨rfl, hb2⟩
  have HB2 := Lib.hid (HB0.out.trans (hb2.mono HB0.out.size))
  have HR2 := Lib.hid ((hb2.block _ (lt_of_block HR0.out)).trans HR0.out)
  have HTh := Lib.hid (there_row2 HR2.out)
  have HSet := save_two (.int .i64 0) (.slice none 0 0) HR2.out HB2.out
  clear h0 h1 hb2
  go_wp2_with (refine wpList_store_mid rfl 24 _ _ rfl (w.heap.size + 1) 0 #[.int .i64 0, .slice none 0 0] rfl rfl HTh.out sizePg (oneP _ _ _ _) ?_; generalize hw4 : World.setCells _ _ _ _ = w4; obtain ⟨hr4, hs4⟩ := HSet.out _ hw4; have HR4 := Lib.hid hr4; have HS4 := Lib.hid hs4; clear hw4 hr4 hs4)
  (try simp only [Exit.inBlock, Exit.then])
  exact bodyPost_ret (results_cell_tmp2 rfl _ w4 (w.heap.size + 1) 24 _ _ _ rfl HR4.out Try.underlying24 rfl sizePg) rfl ⟨rfl, HS4.out⟩
set_option maxRecDepth 100000 in
set_option maxHeartbeats 4000000 in
theorem Allocate_arg (regs K : Int) (ls : List (List Cd)) (bl : Option Addr) (cap : Nat) (w : World) (hv : progErrW regs ls = 0) (hl : ls.length ≤ 9223372036854775807) (hlm : ∀ k, k < ls.length → (atB ls k).length ≤ 9223372036854775807) (hin : BlkIn w bl ls) (hK : K < 1 ∨ 8 < K) :
    Calls Try.prog 7 #[.agg #[.int .i64 regs, .slice bl ls.length cap], .int .i64 K] w (ErrPost 1 w) := by
  have HI := Lib.hid hin
  have HVal := Lib.hid (fun u (h : BlkIn u bl ls) => ValidateW_any regs ls bl cap u h hl hlm)
  rw [hv] at HVal
  have h0 : ((w.alloc (.cells #[.int .i64 regs, .slice bl ls.length cap] 24)).alloc (.cells #[.int .i64 0, .slice none 0 0] 24)).cell? ⟨w.heap.size, 0, none⟩ = some (.int .i64 regs) := by simp [go_sem]
  have h1 : ((w.alloc (.cells #[.int .i64 regs, .slice bl ls.length cap] 24)).alloc (.cells #[.int .i64 0, .slice none 0 0] 24)).cell? ⟨w.heap.size, 1, none⟩ = some (.slice bl ls.length cap) := by simp [go_sem]
  have hr : ((w.alloc (.cells #[.int .i64 regs, .slice bl ls.length cap] 24)).alloc (.cells #[.int .i64 0, .slice none 0 0] 24)).heap[w.heap.size + 1]? = some (.cells #[.int .i64 0, .slice none 0 0] 24 (0, 0)) := by
    have := heap_alloc_new (w.alloc (.cells #[.int .i64 regs, .slice bl ls.length cap] 24)) (.cells #[.int .i64 0, .slice none 0 0] 24)
    simpa using this
  have hb : Below w.heap.size w ((w.alloc (.cells #[.int .i64 regs, .slice bl ls.length cap] 24)).alloc (.cells #[.int .i64 0, .slice none 0 0] 24)) := ((Below.refl _ _).alloc (Nat.le_refl _) _).alloc (by simp) _
  have HB0 := Lib.hid hb; have HR0 := Lib.hid hr
  have hK2 : K < 1 ∨ ¬ K < 1 ∧ 8 < K := by omega
  clear hb hr hin hl hlm hv hK
  generalize ls.length = ln at *
  rcases hK2 with hk1 | ⟨hk1, hk8⟩
  all_goals
    go_enter Try.func7, Try.ntmps7
    go_upto_region 1 with (fail)
    generalize (w.alloc (.cells #[.int .i64 regs, .slice bl ln cap] 24)).alloc (.cells #[.int .i64 0, .slice none 0 0] 24) = w1 at *
    have HV1 := Lib.hid (HVal.out w1 (HI.out.below HB0.out))
    go_wp2_with fail
    refine HV1.out.mono ?_; rintro e w2 ⟨rfl, hb2⟩
    have HB2 := Lib.hid (HB0.out.trans (hb2.mono HB0.out.size))
    have HR2 := Lib.hid ((hb2.block _ (lt_of_block HR0.out)).trans HR0.out)
    have HTh := Lib.hid (there_row2 HR2.out)
    have HSet := save_two (.int .i64 0) (.slice none 0 0) HR2.out HB2.out
    clear h0 h1 hb2
    go_wp2_with (refine wpList_store_mid rfl 24 _ _ rfl (w.heap.size + 1) 0 #[.int .i64 0, .slice none 0 0] rfl rfl HTh.out sizePg (oneP _ _ _ _) ?_; generalize hw4 : World.setCells _ _ _ _ = w4; obtain ⟨hr4, hs4⟩ := HSet.out _ hw4; have HR4 := Lib.hid hr4; have HS4 := Lib.hid hs4; clear hw4 hr4 hs4)
    (try simp only [Exit.inBlock, Exit.then])
    exact bodyPost_ret (results_cell_tmp2 rfl _ w4 (w.heap.size + 1) 24 _ _ _ rfl HR4.out Try.underlying24 rfl sizePg) rfl ⟨rfl, HS4.out⟩
/-- What Allocate answers. -/
def AlShape (regs K : Int) (ls : List (List Cd)) (L : List (List Int)) (w : World) (e : Ending) (w' : World) : Prop :=
  (∃ q0 qa qc outs pl er, e = .returned (.tuple #[.agg #[.int .i64 q0, .slice qa outs.length qc], .int .i64 pl, .int .i64 er]) ∧ BlkIn w' qa outs ∧
    ((progErrW regs ls ≠ 0 ∧ er = progErrW regs ls ∧ outs = []) ∨ (progErrW regs ls = 0 ∧ (K < 1 ∨ 8 < K) ∧ er = 1 ∧ outs = []) ∨ (progErrW regs ls = 0 ∧ 1 ≤ K ∧ K ≤ 8 ∧ er = 3 ∧ outs = []) ∨
      (progErrW regs ls = 0 ∧ 1 ≤ K ∧ K ≤ 8 ∧ er = 0 ∧ q0 = K + 2 ∧ ∃ s places, (s.k : Int) = K ∧ SeatOk s ls (tabI L) places ∧ pl = (places : Nat) ∧ outs = outS s ls (L.getD 0 []) ∧ progErrW q0 outs = 0))) ∧ Below w.heap.size w w'
theorem Allocate_any (regs K : Int) (ls : List (List Cd)) (L : List (List Int)) (bl : Option Addr) (cap : Nat) (w : World) (hlm : ∀ k, k < ls.length → (atB ls k).length ≤ 100) (hln : ls.length ≤ 100) (him : ∀ b i, (atC (atB ls b) i).im < 4294967296) (hL : LiveOf ls regs.toNat L) (hin : BlkIn w bl ls) :
    Calls Try.prog 7 #[.agg #[.int .i64 regs, .slice bl ls.length cap], .int .i64 K] w (AlShape regs K ls L w) := by
  have hlm' : ∀ k, k < ls.length → (atB ls k).length ≤ 9223372036854775807 := fun k hk => Nat.le_trans (hlm k hk) (by omega)
  by_cases hv : progErrW regs ls = 0
  · by_cases hK : K < 1 ∨ 8 < K
    · refine (Allocate_arg regs K ls bl cap w hv (by omega) hlm' hin hK).mono fun e w' h => ?_
      exact ⟨⟨0, none, 0, [], 0, 1, h.1, fun _ hk => absurd hk (Nat.not_lt_zero _), .inr (.inl ⟨hv, hK, rfl, rfl⟩)⟩, h.2⟩
    · obtain ⟨hbig, _, _⟩ := prog_partsW hv
      obtain ⟨rn, rfl⟩ : ∃ rn : Nat, regs = (rn : Int) := ⟨regs.toNat, by unfold tooBigW at hbig; omega⟩
      obtain ⟨k, rfl⟩ : ∃ k : Nat, K = (k : Int) := ⟨K.toNat, by omega⟩
      rw [Int.toNat_natCast] at hL
      refine (Allocate_ok rn k ls L bl cap w hv hlm hln him hL hin (by omega)).mono fun e w' h => ?_
      obtain ⟨⟨s, places, rfl, hs, h1⟩, h2⟩ := h
      refine ⟨?_, h2⟩
      by_cases hp : progErrW ((s.k : Int) + 2) (outS s ls (L.getD 0 [])) = 0
      · rw [if_pos hp] at h1
        obtain ⟨aa, ac, he, hb⟩ := h1
        exact ⟨_, aa, ac, _, _, 0, he, hb, .inr (.inr (.inr ⟨hv, by omega, by omega, rfl, rfl, s, places, rfl, hs, rfl, rfl, hp⟩))⟩
      · rw [if_neg hp] at h1
        exact ⟨0, none, 0, [], 0, 3, h1, fun _ hk => absurd hk (Nat.not_lt_zero _), .inr (.inr (.inl ⟨hv, by omega, by omega, rfl, rfl⟩))⟩
  · refine (Allocate_err regs K ls bl cap w hv (by omega) hlm' hin).mono fun e w' h => ?_
    exact ⟨⟨0, none, 0, [], 0, _, h.1, fun _ hk => absurd hk (Nat.not_lt_zero _), .inl ⟨hv, rfl, rfl⟩⟩, h.2⟩
end Go.Proofs.Ytjfpaelmcepidaa.PK
