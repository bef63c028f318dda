/- Packed of several texts. -/
import Derived.WalkKit
import Derived.ProofKit
import Derived.OpenShut
import Derived.Lib.SmallJoins
import Derived.Deep.Fields
import Derived.Carry
import Derived.Test.YtpdbokbmchlgpaaGreatProg
import Derived.WalkSpells
import Derived.WalkLawsBesides
import Derived.BigQuiet
import Derived.Deep.QuietTactic
import Derived.Lib.Hide
import Derived.Lib.SliceRun
import Derived.Laws.EntriesVeiled
import Derived.Laws.Rows
import Derived.OneCell
import Derived.Shelf.Abstract
import Derived.Maps.AppendAt
import Derived.Deep.Slices
import Derived.Laws.Closers25b
namespace Go.Proofs.YtpdbokbmchlgpaaGreat
open Go.ChangeShapes Go.WideShapes Go.ChangeAt Go.RowKit Go.Joins Go.Deep

section
variable {H : Type} {enc : TypeId × Value → H} {P : Program}

/-- The arguments read as they did. -/
theorem trodAll_below (hl : laidOutB P = true) {W W' : World} (hb : Below W.heap.size W W') :
    ∀ {ts : List TypeId} {vs : List Value} {ds : List (DataW H)} {ps : List MemPlace}, (∀ t ∈ ts, P.readableRec t = true ∧ t < P.types.size) →
      DataW.TrodAll enc P W 0 (fun _ => true) true ts vs ds ps → (∀ x ∈ ps, x.block < W.heap.size) →
      DataW.TrodAll enc P W' 0 (fun b => decide (b < W.heap.size)) true ts vs ds ps
  | [], [], [], _, _, h, _ => h
  | t :: ts, v :: vs, d :: ds, ps, hr, h, hlt => by
    obtain ⟨p, q, h1, h2, rfl⟩ := h
    refine ⟨p, q, Below.trod hl (hr t (by simp)).1 (hr t (by simp)).2 h1 hb (fun x hx => hlt x (by simp [hx])), ?_, rfl⟩
    exact trodAll_below hl hb (fun t ht => hr t (by simp [ht])) h2 (fun x hx => hlt x (by simp [hx]))
  | [], [], _ :: _, _, _, h, _ => absurd h (by simp [DataW.TrodAll])
  | [], _ :: _, _, _, _, h, _ => absurd h (by simp [DataW.TrodAll])
  | _ :: _, [], _, _, _, h, _ => absurd h (by simp [DataW.TrodAll])
  | _ :: _, _ :: _, [], _, _, h, _ => absurd h (by simp [DataW.TrodAll])

/-- What a law owes behind its walk. -/
theorem law_post {f : Func} {s : ChangeSpec} {W W' : World} {args : Array Value} {ds gs : List (DataW H)} {before : List MemPlace} {tb : TypeId}
    (hl : laidOutB P = true) (hr : f.params.all (fun t => P.readableRec t && decide (t < P.types.size)) = true) (hv : s.vars = []) (hb4 : P.underlying tb = some .bool) (hrt : f.resultTypes = #[tb])
    (hW : DataW.Whole enc P f.params.toList s.vars false W args.toList ds gs before) (hfn : s.fn H (ds ++ gs) = { results := [.lit (.bool true)], args := ds })
    (hb : Below W.heap.size W W') : s.post enc P f false true false false W args (.bool true) W' := by
  have hlt := hW.lt
  have hW' := hW
  obtain ⟨p, q, hA, hV, rfl, _, _⟩ := hW'
  rw [hv] at hV
  obtain ⟨rfl, rfl⟩ := trodVars_none hV
  refine ⟨ds, [], p ++ [], [], p, [], hW, ?_, ?_, ?_, ?_, fun h => by cases h⟩
  · rw [hfn, hrt]
    exact trodAll_mk1 (shut_bool hb4 _)
  · rw [hfn]
    refine trodAll_below hl hb (fun t ht => ?_) hA (fun x hx => hlt x (by simp [hx]))
    rw [Array.all_eq_true'] at hr
    have := hr t (by simpa using ht)
    simpa using this
  · rw [hv, hfn]; exact rfl
  · exact World.keptBut_mono (fun p hp => absurd hp (by simp)) (hb.frame (fun _ => False))
end

section
variable {H : Type} {enc : TypeId × Value → H} {P : Program} {w : World} {base : Nat} {spare : Nat → Bool} {held : Bool}
end
end Go.Proofs.YtpdbokbmchlgpaaGreat
namespace Go.Proofs.YtpdbokbmchlgpaaGreat.PK

/-- An instruction of neutral code. -/
structure Cd where
  op : Int
  d : Int
  a : Int
  b : Int
  im : Nat
  to : Int
theorem Cd.ext' {p q : Cd} (h1 : p.op = q.op) (h2 : p.d = q.d) (h3 : p.a = q.a) (h4 : p.b = q.b) (h5 : p.im = q.im) (h6 : p.to = q.to) : p = q := by
  cases p; cases q; simp_all
instance : DecidableEq Cd := fun p q =>
  if h : p.op = q.op ∧ p.d = q.d ∧ p.a = q.a ∧ p.b = q.b ∧ p.im = q.im ∧ p.to = q.to then .isTrue (Cd.ext' h.1 h.2.1 h.2.2.1 h.2.2.2.1 h.2.2.2.2.1 h.2.2.2.2.2)
  else .isFalse fun e => h ⟨by rw [e], by rw [e], by rw [e], by rw [e], by rw [e], by rw [e]⟩
def noCd : Cd := ⟨0, 0, 0, 0, 0, 0⟩
instance : Inhabited Cd := ⟨noCd⟩
def atC (l : List Cd) (k : Nat) : Cd := l.getD k noCd
theorem atC_get {l : List Cd} {k : Nat} (h : k < l.length) : atC l k = l[k] := by
  unfold atC
  rw [List.getD_eq_getElem?_getD, List.getElem?_eq_getElem h]; rfl
theorem atC_mem {l : List Cd} {k : Nat} (h : k < l.length) : atC l k ∈ l := by
  rw [atC_get h]; exact List.getElem_mem h
theorem mem_atC {l : List Cd} {x : Cd} (h : x ∈ l) : ∃ k, k < l.length ∧ atC l k = x := by
  obtain ⟨k, hk, rfl⟩ := List.mem_iff_getElem.1 h
  exact ⟨k, hk, atC_get hk⟩
theorem atC_take {l : List Cd} {i k : Nat} (h : k < i) : atC (l.take i) k = atC l k := by
  unfold atC
  rw [List.getD_eq_getElem?_getD, List.getD_eq_getElem?_getD, List.getElem?_take, if_pos h]
/-- Which fields an operation has. -/
def fD (op : Int) : Bool := decide (0 ≤ op ∧ op ≤ 20)
def fA (op : Int) : Bool := decide (1 ≤ op ∧ op ≤ 23 ∨ op = 25)
def fB (op : Int) : Bool := decide (2 ≤ op ∧ op ≤ 17 ∨ 21 ≤ op ∧ op ≤ 23)
def fI (op : Int) : Bool := decide (op = 0 ∨ 18 ≤ op ∧ op ≤ 23)
def fT (op : Int) : Bool := decide (op = 24 ∨ op = 25)
def fM (op : Int) : Bool := decide (18 ≤ op ∧ op ≤ 23)
def fO (op : Int) : Bool := decide (0 ≤ op ∧ op ≤ 27)
/-- A field is right. -/
def wi (n : Int) (asked : Bool) (lo hi : Int) : Bool := if asked then decide (lo ≤ n) && decide (n < hi) else decide (n = 0)
def lowA (op : Int) : Int := if fM op then -1 else 0
def isCodeB (x : Cd) (regs blocks : Int) : Bool :=
  fO x.op && (wi x.d (fD x.op) 0 regs && (wi x.a (fA x.op) (lowA x.op) regs && (wi x.b (fB x.op) 0 regs && (wi x.to (fT x.op) 0 blocks && (fI x.op || decide (x.im = 0))))))
def isLastB (op : Int) : Bool := decide (op = 24 ∨ op = 26 ∨ op = 27)
end Go.Proofs.YtpdbokbmchlgpaaGreat.PK
namespace Go.Proofs.YtpdbokbmchlgpaaGreat.PK
open Go.RowKit

theorem ret_bool {a b : Bool} (h : a = b) : Ending.returned (.bool a) = .returned (.bool b) := by rw [h]
theorem ret_int {k : IntKind} {a b : Int} (h : a = b) : Ending.returned (.int k a) = .returned (.int k b) := by rw [h]
theorem keep {w w' : World} {b off : Nat} {v : Value} (h : w.cell? ⟨b, off, none⟩ = some v) (hb : Below w.heap.size w w') : w'.cell? ⟨b, off, none⟩ = some v := by
  rw [hb.cell (p := ⟨b, off, none⟩) (block_lt_of_cell h)]; exact h
theorem below_drewN {B : Nat} {w w' : World} (h : Below B w w') (n : Nat) : Below B w (w'.drewN n) := ⟨h.os, h.tape, h.output, h.size, h.block⟩
theorem below_drew1 {B : Nat} {w w' : World} (h : Below B w w') : Below B w w'.drew := ⟨h.os, h.tape, h.output, h.size, h.block⟩
theorem below_of_drew {w w' : World} (h : Below w.drew.heap.size w.drew w') : Below w.heap.size w w' := ⟨h.os, h.tape, h.output, h.size, h.block⟩
theorem heap_at (w : World) (o : Obj) (n : Nat) (h : n = w.heap.size) : (w.alloc o).heap[n]? = some o := by subst h; exact heap_alloc_new w o
theorem heap_past (w : World) (o : Obj) (n : Nat) (h : n < w.heap.size) : (w.alloc o).heap[n]? = w.heap[n]? := Below.heap_alloc w o n h
theorem addr_zero (b j : Nat) : (⟨b, 0, none⟩ : Addr).add j = ⟨b, j, none⟩ := by unfold Addr.add; simp; intro h; omega
theorem cell_one_at (w : World) (x : Value) (t : TypeId) : ∀ j u, [x][j]? = some u → (w.alloc (.cells #[x] t)).cell? ((⟨w.heap.size, 0, none⟩ : Addr).add j) = some u := by
  intro j u hj
  rw [addr_zero, World.cell?_alloc_at _ _ _ _ rfl]
  match j, hj with
  | 0, hj => simpa using hj
theorem one_int (k : Int) : ∀ u ∈ [Value.int .i64 k], u.oneCell' = true := by simp [Value.oneCell']
theorem owns_shape {w : World} {base : Nat} {e : TypeId} {s n : Nat} {v : Value} {xs : List Value} (h : w.ownsRow base e s v n xs) : ∃ a cap, v = .slice a n cap := by
  obtain ⟨_, ⟨rfl, rfl⟩ | ⟨g, cap, cur, rfl, _⟩⟩ := h
  · exact ⟨none, 0, rfl⟩
  · exact ⟨_, cap, rfl⟩
theorem owns_block {w : World} {base : Nat} {e : TypeId} {s n : Nat} {v : Value} {xs : List Value} (h : w.ownsRow base e s v n xs) {g : Nat} (hg : v.ownBlock = some g) : base ≤ g ∧ g < w.heap.size := by
  obtain ⟨_, ⟨rfl, rfl⟩ | ⟨g', cap, cur, rfl, hb, hc, _⟩⟩ := h
  · cases hg
  · simp only [Value.ownBlock, Option.some.injEq] at hg
    subst hg
    exact ⟨hb, lt_of_block hc⟩
theorem owns_of_block {w w' : World} {base : Nat} {e : TypeId} {s n : Nat} {v : Value} {xs : List Value} (h : w.ownsRow base e s v n xs) (hb : ∀ g, base ≤ g → g < w.heap.size → v.ownBlock = some g → w'.heap[g]? = w.heap[g]?) : w'.ownsRow base e s v n xs := by
  refine ⟨h.1, ?_⟩
  rcases h.2 with h1 | ⟨g, cap, cur, e, hg, hc, r⟩
  · exact .inl h1
  · exact .inr ⟨g, cap, cur, e, hg, (hb g hg (lt_of_block hc) (by rw [e]; rfl)).trans hc, r⟩
theorem owns_below {w w' : World} {base : Nat} {e : TypeId} {s n : Nat} {v : Value} {xs : List Value} (h : w.ownsRow base e s v n xs) (hb : Below w.heap.size w w') : w'.ownsRow base e s v n xs := owns_of_block h fun g _ h2 _ => hb.block g h2
theorem owns_base {w : World} {B B' : Nat} {e : TypeId} {s n : Nat} {v : Value} {xs : List Value} (h : w.ownsRow B e s v n xs) (hb : B' ≤ B) : w.ownsRow B' e s v n xs := by
  refine ⟨h.1, ?_⟩
  rcases h.2 with h1 | ⟨g, cap, cur, e, hg, r⟩
  · exact .inl h1
  · exact .inr ⟨g, cap, cur, e, Nat.le_trans hb hg, r⟩
theorem owns_set {w : World} {B g n c s : Nat} {e : TypeId} {xs : List Value} (h : w.ownsRow B e s (.slice (some ⟨g, 0, none⟩) n c) n xs) (j : Nat) (x : Value) : (w.setCell ⟨g, j, none⟩ x).ownsRow B e s (.slice (some ⟨g, 0, none⟩) n c) n (xs.set j x) := by
  obtain ⟨hl, ⟨e0, _⟩ | ⟨g', cap, cur, e0, hb, hg, hnc, hm, hcs, ht⟩⟩ := h
  · cases e0
  · simp only [Value.slice.injEq, Option.some.injEq, Addr.mk.injEq, and_true, true_and] at e0
    obtain ⟨rfl, rfl⟩ := e0
    exact ⟨by simpa using hl, .inr ⟨g, c, cur.setIfInBounds j x, rfl, hb, heap_setCell_same w g _ _ _ _ hg, hnc, hm, by simpa using hcs, by rw [Array.toList_setIfInBounds, List.take_set, ht]⟩⟩
theorem owns_nil (w : World) (B : Nat) (e : TypeId) (s : Nat) : w.ownsRow B e s (.slice none 0 0) 0 [] := ⟨by simp, .inl ⟨rfl, rfl⟩⟩
/-- The cells of an own row. -/
theorem owns_cells {w : World} {B : Nat} {e : TypeId} {s n : Nat} {v : Value} {xs : List Value} (h : w.ownsRow B e s v n xs) (hn : 0 < n) : ∃ g cap, v = .slice (some ⟨g, 0, none⟩) n cap ∧ n ≤ cap ∧ cap ≤ maxLen ∧ B ≤ g ∧ g < w.heap.size ∧ (∀ j u, xs[j]? = some u → w.cell? ⟨g, j, none⟩ = some u) ∧ ∀ j, w.frozen? ⟨g, j, none⟩ = false := by
  obtain ⟨hl, ⟨_, h0⟩ | ⟨g, cap, cur, rfl, hb, hg, hnc, hm, hcs, ht⟩⟩ := h
  · omega
  · refine ⟨g, cap, rfl, hnc, hm, hb, lt_of_block hg, fun j u hj => ?_, fun j => frozen_of_row w g j _ _ hg⟩
    rw [cell_of_row w g j _ _ _ hg]
    have hj2 : j < n * s := by rw [← hl]; exact (List.getElem?_eq_some_iff.1 hj).1
    rw [← ht, List.getElem?_take, if_pos hj2] at hj
    simpa using hj

/-! ### Numbers -/
theorem Tryz.infoInt : (Tryz.prog.info? 3).map (fun i => (i.zero, i.size, i.bytes)) = some (some (.int .i64 0), 1, 8) := by kernel_rfl
/-- The cells of a slice are these numbers. -/
def IntsIn (w : World) (a : Option Addr) (xs : List Int) : Prop :=
  ∀ k, k < xs.length → ∃ b off, a = some ⟨b, off, none⟩ ∧ w.cell? ⟨b, off + k, none⟩ = some (.int .i64 (xs.getD k 0))
theorem IntsIn.below {w w' : World} {a : Option Addr} {xs : List Int} (h : IntsIn w a xs) (hb : Below w.heap.size w w') : IntsIn w' a xs := fun k hk => by
  obtain ⟨b, off, rfl, hc⟩ := h k hk
  exact ⟨b, off, rfl, keep hc hb⟩
theorem IntsIn.nil (w : World) (a : Option Addr) : IntsIn w a [] := fun _ hk => absurd hk (Nat.not_lt_zero _)
def encI (xs : List Int) : List Value := xs.map fun x => .int .i64 x
theorem encI_len (xs : List Int) : (encI xs).length = xs.length := by simp [encI]
theorem encI_snoc (xs : List Int) (x : Int) : encI (xs ++ [x]) = encI xs ++ [.int .i64 x] := by simp [encI]
theorem encI_get {xs : List Int} {k : Nat} (h : k < xs.length) : (encI xs)[k]? = some (.int .i64 (xs.getD k 0)) := by
  simp [encI, List.getElem?_eq_getElem h, List.getD_eq_getElem?_getD]
theorem encI_one (xs : List Int) : ∀ u ∈ encI xs, u.oneCell' = true := fun u hu => by
  obtain ⟨x, _, rfl⟩ := List.mem_map.1 hu; rfl
theorem ints_of_owns {w : World} {base : Nat} {e : TypeId} {v : Value} {xs : List Int} (h : w.ownsRow base e 1 v xs.length (encI xs)) : ∃ a cap, v = .slice a xs.length cap ∧ xs.length ≤ cap ∧ IntsIn w a xs := by
  by_cases h0 : xs = []
  · subst h0
    obtain ⟨a, cap, rfl⟩ := owns_shape h
    exact ⟨a, cap, rfl, Nat.zero_le _, IntsIn.nil _ _⟩
  · obtain ⟨g, cap, rfl, hnc, _, _, _, hc, _⟩ := owns_cells h (List.length_pos_iff.2 h0)
    exact ⟨_, cap, rfl, hnc, fun k hk => ⟨g, 0, rfl, by rw [Nat.zero_add]; exact hc k _ (encI_get hk)⟩⟩

/-! ### Instructions -/
/-- The six cells of an instruction. -/
structure CdAt (w : World) (b off : Nat) (x : Cd) : Prop where
  c0 : w.cell? ⟨b, off, none⟩ = some (.int .i64 x.op)
  c1 : w.cell? ⟨b, off + 1, none⟩ = some (.int .i64 x.d)
  c2 : w.cell? ⟨b, off + 2, none⟩ = some (.int .i64 x.a)
  c3 : w.cell? ⟨b, off + 3, none⟩ = some (.int .i64 x.b)
  c4 : w.cell? ⟨b, off + 4, none⟩ = some (.int .u32 x.im)
  c5 : w.cell? ⟨b, off + 5, none⟩ = some (.int .i64 x.to)
theorem CdAt.keep {w w' : World} {b off : Nat} {x : Cd} (h : CdAt w b off x) (hb : Below w.heap.size w w') : CdAt w' b off x :=
  ⟨PK.keep h.c0 hb, PK.keep h.c1 hb, PK.keep h.c2 hb, PK.keep h.c3 hb, PK.keep h.c4 hb, PK.keep h.c5 hb⟩
theorem cdAt_new (w : World) (x : Cd) (t : TypeId) : CdAt (w.alloc (.cells #[.int .i64 x.op, .int .i64 x.d, .int .i64 x.a, .int .i64 x.b, .int .u32 x.im, .int .i64 x.to] t)) w.heap.size 0 x := ⟨by simp [go_sem], by simp [go_sem], by simp [go_sem], by simp [go_sem], by simp [go_sem], by simp [go_sem]⟩
/-- The cells of a slice are these instructions. -/
def CdsIn (w : World) (a : Option Addr) (l : List Cd) : Prop :=
  ∀ k, k < l.length → ∃ b off, a = some ⟨b, off, none⟩ ∧ CdAt w b (off + k * 6) (atC l k)
theorem CdsIn.below {w w' : World} {a : Option Addr} {l : List Cd} (h : CdsIn w a l) (hb : Below w.heap.size w w') : CdsIn w' a l := fun k hk => by
  obtain ⟨b, off, rfl, hc⟩ := h k hk
  exact ⟨b, off, rfl, hc.keep hb⟩
theorem CdsIn.take {w : World} {a : Option Addr} {l : List Cd} (h : CdsIn w a l) (n : Nat) : CdsIn w a (l.take n) := fun k hk => by
  rw [List.length_take] at hk
  obtain ⟨b, off, rfl, hc⟩ := h k (by omega)
  exact ⟨b, off, rfl, by rw [atC_take (by omega)]; exact hc⟩
theorem CdsIn.nil (w : World) (a : Option Addr) : CdsIn w a [] := fun _ hk => absurd hk (Nat.not_lt_zero _)
end Go.Proofs.YtpdbokbmchlgpaaGreat.PK
namespace Go.Proofs.YtpdbokbmchlgpaaGreat.PK
open Go.RowKit

theorem addr_flat {w : World} {a : Addr} {v : Value} (h : w.cell? a = some v) : a = ⟨a.block, a.off, none⟩ := by
  obtain ⟨b, o, s⟩ := a
  cases s with
  | none => rfl
  | some x =>
    unfold World.cell? at h
    split at h
    · simp at h
    · cases h
theorem add_flat {a : Addr} (h : a = ⟨a.block, a.off, none⟩) (k : Nat) : a.add k = ⟨a.block, a.off + k, none⟩ := by
  unfold Addr.add
  split
  · rename_i h0; subst h0; exact h
  · rfl
/-- The number of an integer. -/
def intV : Value → Int
  | .int _ n => n
  | _ => 0
theorem u32_cells : Tryz.prog.cellsOf 41 = 1 := by kernel_rfl
theorem int_cells : Tryz.prog.cellsOf 3 = 1 := by kernel_rfl
set_option maxRecDepth 100000 in
theorem open_ints {H : Type} {enc : TypeId × Value → H} {w : World} {base fuel : Nat} {held : Bool} {v : Value} {x : DataW H × List MemPlace}
    (h : DataW.trod enc Tryz.prog w base (fun _ => true) held fuel 22 [v] = some x) :
    ∃ a cap l, v = .slice a l.length cap ∧ IntsIn w a l ∧ l.length ≤ cap ∧ l.length ≤ maxLen := by
  rcases Deep.open_slice1 Tryz.underlying22 int_cells h with ⟨hv, _⟩ | ⟨a, len, cap, m, n, V, D, Pl, hv, _, hlc, hcm, hm, _, hall⟩
  · simp only [List.cons.injEq, and_true] at hv
    exact ⟨none, 0, [], hv, fun _ hk => absurd hk (Nat.not_lt_zero _), Nat.zero_le _, Nat.zero_le _⟩
  · simp only [List.cons.injEq, and_true] at hv
    rw [if_pos rfl] at hm
    have hint : ∀ i, i < cap → ∃ x : Int, w.cell? (a.add i) = some (.int .i64 x) := fun i hi => by
      obtain ⟨h1, h2⟩ := hall i (by omega)
      obtain ⟨x, hx, _, _⟩ := DataW.trod_int Tryz.underlying3 h2
      simp only [List.cons.injEq, and_true] at hx
      exact ⟨x, by rw [h1, hx]⟩
    refine ⟨some a, cap, (List.range len).map fun i => intV ((w.cell? (a.add i)).getD (.int .i64 0)), by simpa using hv, fun k hk => ?_, by simpa using hlc, by simp; omega⟩
    have hk : k < len := by simpa using hk
    obtain ⟨x, h1⟩ := hint k (by omega)
    obtain ⟨x0, h10⟩ := hint 0 (by omega)
    have hf : a = ⟨a.block, a.off, none⟩ := by
      have e : a.add 0 = a := by unfold Addr.add; simp
      rw [e] at h10
      exact addr_flat h10
    have eg : ((List.range len).map fun i => intV ((w.cell? (a.add i)).getD (.int .i64 0))).getD k 0 = x := by
      simp [List.getD_eq_getElem?_getD, hk, h1, intV]
    rw [eg]
    rw [add_flat hf] at h1
    exact ⟨a.block, a.off, by rw [← hf], h1⟩
end Go.Proofs.YtpdbokbmchlgpaaGreat.PK
namespace Go.Proofs.YtpdbokbmchlgpaaGreat.PK
open Go.RowKit

/-- A word. -/
def isW (a : Int) : Prop := 0 ≤ a ∧ a < 4294967296
theorem bits_w (op : BinOp) (a b : Int) : isW (bits op .u32 a b) := ⟨bits_lo_u32 _ _ _, by have := bits_hi_u32 op a b; omega⟩
theorem zero_w : isW 0 := ⟨by decide, by decide⟩
/-- The first d bytes, from the highest one down. -/
def rdD (mem : List Int) (at0 many : Nat) : Nat → Int
  | 0 => 0
  | d + 1 => bits .or .u32 (rdD mem at0 many d * 256 % 4294967296) (mem.getD (at0 + (many - (d + 1))) 0)
def rdF (mem : List Int) (at0 many : Nat) : Int := rdD mem at0 many many
theorem rdD_w (mem : List Int) (at0 many : Nat) : ∀ d, isW (rdD mem at0 many d)
  | 0 => zero_w
  | d + 1 => ⟨bits_lo_u32 _ _ _, by
    have := bits_hi_u32 .or (rdD mem at0 many d * 256 % 4294967296) (mem.getD (at0 + (many - (d + 1))) 0)
    show bits _ _ _ _ < _
    omega⟩
/-- A byte. -/
def isB (a : Int) : Prop := 0 ≤ a ∧ a < 256
/-- A machine: its registers, its memory, where it is, and whether something was touched. -/
structure Mach where
  rg : List Int
  mem : List Int
  blk : Nat
  pc : Nat
  tch : Bool
/-- How a run ends. -/
inductive Run where
  | on (s : Mach)
  | out (mem : List Int) (e : Int) (n : Nat) (t : Bool)
end Go.Proofs.YtpdbokbmchlgpaaGreat.PK
namespace Go.Proofs.YtpdbokbmchlgpaaGreat.PK
open Go.RowKit

/-- The cells of a slice are these words. -/
def WsIn (w : World) (a : Option Addr) (l : List Int) : Prop :=
  ∀ k, k < l.length → ∃ b off, a = some ⟨b, off, none⟩ ∧ w.cell? ⟨b, off + k, none⟩ = some (.int .u32 (l.getD k 0))
theorem WsIn.below {w w' : World} {a : Option Addr} {l : List Int} (h : WsIn w a l) (hb : Below w.heap.size w w') : WsIn w' a l := fun k hk => by
  obtain ⟨b, off, rfl, hc⟩ := h k hk
  exact ⟨b, off, rfl, keep hc hb⟩
end Go.Proofs.YtpdbokbmchlgpaaGreat.PK
