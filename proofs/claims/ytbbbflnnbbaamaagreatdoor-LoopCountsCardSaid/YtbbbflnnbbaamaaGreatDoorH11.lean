/- Packed of several texts. -/
import Derived.Test.YtbbbflnnbbaamaaGreatDoorH10
import Derived.Test.YtbbbflnnbbaamaaGreatDoorProg
import Derived.WalkKit
import Derived.WalkSpells
import Derived.WalkLawsBesides
import Derived.BigQuiet
import Derived.Deep.QuietTactic
import Derived.Lib.Hide
import Derived.Lib.SliceRun
import Derived.Laws.EntriesVeiled
import Derived.Laws.Rows
import Derived.OneCell
import Derived.Shelf.Abstract
import Derived.Maps.AppendAt
import Derived.RangeFuncBox
import Derived.RangeFuncNested
import Derived.RangeFuncBound
import Derived.RangeFuncCalls
import Derived.RangeFuncLeaves
import Derived.Shelf.RegionOpen
import Derived.OwnWalkIn
import Derived.TacticsInMore
import Derived.LoopNIn
import Derived.LoopIn
namespace Go.Proofs.YtbbbflnnbbaamaaGreatDoor.PK
open Go.RowKit

theorem ret_bool {a b : Bool} (h : a = b) : Ending.returned (.bool a) = .returned (.bool b) := by rw [h]
theorem ret_int {k : IntKind} {a b : Int} (h : a = b) : Ending.returned (.int k a) = .returned (.int k b) := by rw [h]
theorem keep {w w' : World} {b off : Nat} {v : Value} (h : w.cell? ⟨b, off, none⟩ = some v) (hb : Below w.heap.size w w') : w'.cell? ⟨b, off, none⟩ = some v := by
 rw [hb.cell (p := ⟨b, off, none⟩) (block_lt_of_cell h)]; exact h
theorem below_drewN {B : Nat} {w w' : World} (h : Below B w w') (n : Nat) : Below B w (w'.drewN n) := ⟨h.os, h.tape, h.output, h.size, h.block⟩
theorem below_drew1 {B : Nat} {w w' : World} (h : Below B w w') : Below B w w'.drew := ⟨h.os, h.tape, h.output, h.size, h.block⟩
theorem below_of_drew {w w' : World} (h : Below w.drew.heap.size w.drew w') : Below w.heap.size w w' := ⟨h.os, h.tape, h.output, h.size, h.block⟩
theorem heap_at (w : World) (o : Obj) (n : Nat) (h : n = w.heap.size) : (w.alloc o).heap[n]? = some o := by subst h; exact heap_alloc_new w o
theorem heap_past (w : World) (o : Obj) (n : Nat) (h : n < w.heap.size) : (w.alloc o).heap[n]? = w.heap[n]? := Below.heap_alloc w o n h
theorem addr_zero (b j : Nat) : (⟨b, 0, none⟩ : Addr).add j = ⟨b, j, none⟩ := by unfold Addr.add; simp; intro h; omega
theorem cell_one_at (w : World) (x : Value) (t : TypeId) : ∀ j u, [x][j]? = some u → (w.alloc (.cells #[x] t)).cell? ((⟨w.heap.size, 0, none⟩ : Addr).add j) = some u := by
 intro j u hj
 rw [addr_zero, World.cell?_alloc_at _ _ _ _ rfl]
 match j, hj with
 | 0, hj => simpa using hj
theorem one_int (k : Int) : ∀ u ∈ [Value.int .i64 k], u.oneCell' = true := by simp [Value.oneCell']
theorem owns_shape {w : World} {base : Nat} {e : TypeId} {s n : Nat} {v : Value} {xs : List Value} (h : w.ownsRow base e s v n xs) : ∃ a cap, v = .slice a n cap := by
 obtain ⟨_, ⟨rfl, rfl⟩ | ⟨g, cap, cur, rfl, _⟩⟩ := h
 ·exact ⟨none, 0, rfl⟩
 ·exact ⟨_, cap, rfl⟩
theorem owns_block {w : World} {base : Nat} {e : TypeId} {s n : Nat} {v : Value} {xs : List Value} (h : w.ownsRow base e s v n xs) {g : Nat} (hg : v.ownBlock = some g) : base ≤ g ∧ g < w.heap.size := by
 obtain ⟨_, ⟨rfl, rfl⟩ | ⟨g', cap, cur, rfl, hb, hc, _⟩⟩ := h
 ·cases hg
 ·simp only [Value.ownBlock, Option.some.injEq] at hg
  subst hg
  exact ⟨hb, lt_of_block hc⟩
theorem owns_of_block {w w' : World} {base : Nat} {e : TypeId} {s n : Nat} {v : Value} {xs : List Value} (h : w.ownsRow base e s v n xs) (hb : ∀ g, base ≤ g → g < w.heap.size → v.ownBlock = some g → w'.heap[g]? = w.heap[g]?) : w'.ownsRow base e s v n xs := by
 refine ⟨h.1, ?_⟩
 rcases h.2 with h1 | ⟨g, cap, cur, e, hg, hc, r⟩
 ·exact .inl h1
 ·exact .inr ⟨g, cap, cur, e, hg, (hb g hg (lt_of_block hc) (by rw [e]; rfl)).trans hc, r⟩
theorem owns_below {w w' : World} {base : Nat} {e : TypeId} {s n : Nat} {v : Value} {xs : List Value} (h : w.ownsRow base e s v n xs) (hb : Below w.heap.size w w') : w'.ownsRow base e s v n xs := owns_of_block h fun g _ h2 _ => hb.block g h2
theorem owns_base {w : World} {B B' : Nat} {e : TypeId} {s n : Nat} {v : Value} {xs : List Value} (h : w.ownsRow B e s v n xs) (hb : B' ≤ B) : w.ownsRow B' e s v n xs := by
 refine ⟨h.1, ?_⟩
 rcases h.2 with h1 | ⟨g, cap, cur, e, hg, r⟩
 ·exact .inl h1
 ·exact .inr ⟨g, cap, cur, e, Nat.le_trans hb hg, r⟩
theorem owns_set {w : World} {B g n c s : Nat} {e : TypeId} {xs : List Value} (h : w.ownsRow B e s (.slice (some ⟨g, 0, none⟩) n c) n xs) (j : Nat) (x : Value) : (w.setCell ⟨g, j, none⟩ x).ownsRow B e s (.slice (some ⟨g, 0, none⟩) n c) n (xs.set j x) := by
 obtain ⟨hl, ⟨e0, _⟩ | ⟨g', cap, cur, e0, hb, hg, hnc, hm, hcs, ht⟩⟩ := h
 ·cases e0
 ·simp only [Value.slice.injEq, Option.some.injEq, Addr.mk.injEq, and_true, true_and] at e0
  obtain ⟨rfl, rfl⟩ := e0
  exact ⟨by simpa using hl, .inr ⟨g, c, cur.setIfInBounds j x, rfl, hb, heap_setCell_same w g _ _ _ _ hg, hnc, hm, by simpa using hcs, by rw [Array.toList_setIfInBounds, List.take_set, ht]⟩⟩
theorem owns_nil (w : World) (B : Nat) (e : TypeId) (s : Nat) : w.ownsRow B e s (.slice none 0 0) 0 [] := ⟨by simp, .inl ⟨rfl, rfl⟩⟩
theorem owns_cells {w : World} {B : Nat} {e : TypeId} {s n : Nat} {v : Value} {xs : List Value} (h : w.ownsRow B e s v n xs) (hn : 0 < n) : ∃ g cap, v = .slice (some ⟨g, 0, none⟩) n cap ∧ n ≤ cap ∧ cap ≤ maxLen ∧ B ≤ g ∧ g < w.heap.size ∧ (∀ j u, xs[j]? = some u → w.cell? ⟨g, j, none⟩ = some u) ∧ ∀ j, w.frozen? ⟨g, j, none⟩ = false := by
 obtain ⟨hl, ⟨_, h0⟩ | ⟨g, cap, cur, rfl, hb, hg, hnc, hm, hcs, ht⟩⟩ := h
 ·omega
 ·refine ⟨g, cap, rfl, hnc, hm, hb, lt_of_block hg, fun j u hj => ?_, fun j => frozen_of_row w g j _ _ hg⟩
  rw [cell_of_row w g j _ _ _ hg]
  have hj2 : j < n * s := by rw [← hl]; exact (List.getElem?_eq_some_iff.1 hj).1
  rw [← ht, List.getElem?_take, if_pos hj2] at hj
  simpa using hj

/-! ### Numbers -/
theorem Tryz.infoInt : (Tryz.prog.info? 3).map (fun i => (i.zero, i.size, i.bytes)) = some (some (.int .i64 0), 1, 8) := by kernel_rfl
def IntsIn (w : World) (a : Option Addr) (xs : List Int) : Prop :=
 ∀ k, k < xs.length → ∃ b off, a = some ⟨b, off, none⟩ ∧ w.cell? ⟨b, off + k, none⟩ = some (.int .i64 (xs.getD k 0))
theorem IntsIn.below {w w' : World} {a : Option Addr} {xs : List Int} (h : IntsIn w a xs) (hb : Below w.heap.size w w') : IntsIn w' a xs := fun k hk => by
 obtain ⟨b, off, rfl, hc⟩ := h k hk
 exact ⟨b, off, rfl, keep hc hb⟩
theorem IntsIn.nil (w : World) (a : Option Addr) : IntsIn w a [] := fun _ hk => absurd hk (Nat.not_lt_zero _)
def encI (xs : List Int) : List Value := xs.map fun x => .int .i64 x
theorem encI_len (xs : List Int) : (encI xs).length = xs.length := by simp [encI]
theorem encI_snoc (xs : List Int) (x : Int) : encI (xs ++ [x]) = encI xs ++ [.int .i64 x] := by simp [encI]
theorem encI_get {xs : List Int} {k : Nat} (h : k < xs.length) : (encI xs)[k]? = some (.int .i64 (xs.getD k 0)) := by
 simp [encI, List.getElem?_eq_getElem h, List.getD_eq_getElem?_getD]
theorem encI_one (xs : List Int) : ∀ u ∈ encI xs, u.oneCell' = true := fun u hu => by
 obtain ⟨x, _, rfl⟩ := List.mem_map.1 hu; rfl
theorem ints_of_owns {w : World} {base : Nat} {e : TypeId} {v : Value} {xs : List Int} (h : w.ownsRow base e 1 v xs.length (encI xs)) : ∃ a cap, v = .slice a xs.length cap ∧ xs.length ≤ cap ∧ IntsIn w a xs := by
 by_cases h0 : xs = []
 ·subst h0
  obtain ⟨a, cap, rfl⟩ := owns_shape h
  exact ⟨a, cap, rfl, Nat.zero_le _, IntsIn.nil _ _⟩
 ·obtain ⟨g, cap, rfl, hnc, _, _, _, hc, _⟩ := owns_cells h (List.length_pos_iff.2 h0)
  exact ⟨_, cap, rfl, hnc, fun k hk => ⟨g, 0, rfl, by rw [Nat.zero_add]; exact hc k _ (encI_get hk)⟩⟩

/-! ### Instructions -/
structure CdAt (w : World) (b off : Nat) (x : Cd) : Prop where
 c0 : w.cell? ⟨b, off, none⟩ = some (.int .i64 x.op)
 c1 : w.cell? ⟨b, off + 1, none⟩ = some (.int .i64 x.d)
 c2 : w.cell? ⟨b, off + 2, none⟩ = some (.int .i64 x.a)
 c3 : w.cell? ⟨b, off + 3, none⟩ = some (.int .i64 x.b)
 c4 : w.cell? ⟨b, off + 4, none⟩ = some (.int .u32 x.im)
 c5 : w.cell? ⟨b, off + 5, none⟩ = some (.int .i64 x.to)
end Go.Proofs.YtbbbflnnbbaamaaGreatDoor.PK
namespace Go.Proofs.YtbbbflnnbbaamaaGreatDoor.PK
open Go.RowKit

structure InsAt (w : World) (b off : Nat) (x : Ins) (aa at' : Option Addr) (ca ct : Nat) : Prop where
 c0 : w.cell? ⟨b, off, none⟩ = some (.int .i64 x.op)
 c1 : w.cell? ⟨b, off + 1, none⟩ = some (.int .i64 x.wd)
 c2 : w.cell? ⟨b, off + 2, none⟩ = some (.int .i64 x.fl)
 c3 : w.cell? ⟨b, off + 3, none⟩ = some (.slice aa x.ar.length ca)
 c4 : w.cell? ⟨b, off + 4, none⟩ = some (.int .u32 x.im)
 c5 : w.cell? ⟨b, off + 5, none⟩ = some (.slice at' x.tt.length ct)
 ia : IntsIn w aa x.ar
 it : IntsIn w at' x.tt
theorem InsAt.below {w w' : World} {b off : Nat} {x : Ins} {aa at' : Option Addr} {ca ct : Nat} (h : InsAt w b off x aa at' ca ct) (hb : Below w.heap.size w w') : InsAt w' b off x aa at' ca ct :=
 ⟨keep h.c0 hb, keep h.c1 hb, keep h.c2 hb, keep h.c3 hb, keep h.c4 hb, keep h.c5 hb, h.ia.below hb, h.it.below hb⟩
abbrev insV (x : Ins) (aa at' : Option Addr) (ca ct : Nat) : Value := .agg #[.int .i64 x.op, .int .i64 x.wd, .int .i64 x.fl, .slice aa x.ar.length ca, .int .u32 x.im, .slice at' x.tt.length ct]
theorem insAt_new (w : World) (x : Ins) (aa at' : Option Addr) (ca ct : Nat) (t : TypeId) (ha : IntsIn w aa x.ar) (ht : IntsIn w at' x.tt) : InsAt (w.alloc (.cells #[.int .i64 x.op, .int .i64 x.wd, .int .i64 x.fl, .slice aa x.ar.length ca, .int .u32 x.im, .slice at' x.tt.length ct] t)) w.heap.size 0 x aa at' ca ct := by
 have hal : Below w.heap.size w (w.alloc (.cells #[.int .i64 x.op, .int .i64 x.wd, .int .i64 x.fl, .slice aa x.ar.length ca, .int .u32 x.im, .slice at' x.tt.length ct] t)) := (Below.refl _ _).alloc (Nat.le_refl _) _
 exact ⟨by simp [go_sem], by simp [go_sem], by simp [go_sem], by simp [go_sem], by simp [go_sem], by simp [go_sem], ha.below hal, ht.below hal⟩
def InsIn (w : World) (a : Option Addr) (l : List Ins) : Prop :=
 ∀ k, k < l.length → ∃ b off aa at' ca ct, a = some ⟨b, off, none⟩ ∧ InsAt w b (off + k * 6) (atI l k) aa at' ca ct
theorem InsIn.below {w w' : World} {a : Option Addr} {l : List Ins} (h : InsIn w a l) (hb : Below w.heap.size w w') : InsIn w' a l := fun k hk => by
 obtain ⟨b, off, aa, at', ca, ct, rfl, hc⟩ := h k hk
 exact ⟨b, off, aa, at', ca, ct, rfl, hc.below hb⟩
def FBIn (w : World) (bl : Option Addr) (ls : List (List Ins)) : Prop :=
 ∀ k, k < ls.length → ∃ b off a cap, bl = some ⟨b, off, none⟩ ∧ w.cell? ⟨b, off + k, none⟩ = some (.slice a (atBk ls k).length cap) ∧ InsIn w a (atBk ls k)
theorem FBIn.below {w w' : World} {bl : Option Addr} {ls : List (List Ins)} (h : FBIn w bl ls) (hb : Below w.heap.size w w') : FBIn w' bl ls := fun k hk => by
 obtain ⟨b, off, a, cap, rfl, hc, hi⟩ := h k hk
 exact ⟨b, off, a, cap, rfl, keep hc hb, hi.below hb⟩
structure FunA where
 pa : Option Addr
 pc : Nat
 sa : Option Addr
 sc : Nat
 ba : Option Addr
 bc : Nat
abbrev funC (F : Fun) (A : FunA) : Array Value := #[.slice A.pa F.ps.length A.pc, .int .i64 F.ret, .slice A.sa F.sl.length A.sc, .slice A.ba F.bs.length A.bc]
abbrev funV (F : Fun) (A : FunA) : Value := .agg (funC F A)
structure FunIn (w : World) (F : Fun) (A : FunA) : Prop where
 ps : IntsIn w A.pa F.ps
 sl : IntsIn w A.sa F.sl
 bs : FBIn w A.ba F.bs
theorem FunIn.below {w w' : World} {F : Fun} {A : FunA} (h : FunIn w F A) (hb : Below w.heap.size w w') : FunIn w' F A := ⟨h.ps.below hb, h.sl.below hb, h.bs.below hb⟩
structure FunSm (F : Fun) : Prop where
 ps : F.ps.length ≤ 20
 sl : F.sl.length ≤ 20
 bs : F.bs.length ≤ 40
 ins : ∀ k, k < F.bs.length → (atBk F.bs k).length ≤ 100
 ars : ∀ k i, k < F.bs.length → i < (atBk F.bs k).length → (atI (atBk F.bs k) i).ar.length ≤ 40 ∧ (atI (atBk F.bs k) i).tt.length ≤ 40
end Go.Proofs.YtbbbflnnbbaamaaGreatDoor.PK
namespace Go.Proofs.YtbbbflnnbbaamaaGreatDoor.PK
open Go.RowKit Go.Shelf

variable {F : Fence} {n : Nat} {P : Program}
structure Turn (B : Nat) (A A' : World) : Prop where
 os : A'.os = A.os
 tape : A'.tape = A.tape
 output : A'.output = A.output
 size : A.heap.size ≤ A'.heap.size
 block : ∀ (b : Nat) (o : Obj), A.heap[b]? = some o → b < B ∨ o.isCells = true → A'.heap[b]? = A.heap[b]?
theorem Turn.of_below {B : Nat} {A A' : World} (h : Below A.heap.size A A') : Turn B A A' := ⟨h.os, h.tape, h.output, h.size, fun b _ hb _ => h.block b (lt_of_block hb)⟩
theorem Turn.put {B : Nat} {A : World} {l : Nat} {o : Obj} (o' : Obj) (hl : A.heap[l]? = some o) (ho : o.isCells = false) (hB : B ≤ l) : Turn B A (A.putObj l o') :=
 ⟨rfl, rfl, rfl, by rw [World.putObj_size]; exact Nat.le_refl _, fun b ob hb hq => World.putObj_heap_other (fun e => by
  subst e
  rw [hl] at hb; cases hb
  rcases hq with h | h
  ·omega
  ·rw [ho] at h; cases h)⟩
theorem Turn.heap {B : Nat} {A A' : World} (h : Turn B A A') {b : Nat} {cs : Array Value} {t : TypeId} {fz : Nat × Nat} (hb : A.heap[b]? = some (.cells cs t fz)) : A'.heap[b]? = some (.cells cs t fz) := (h.block b _ hb (.inr rfl)).trans hb
theorem Turn.cell {B : Nat} {A A' : World} (h : Turn B A A') {b k : Nat} {v : Value} (hc : A.cell? ⟨b, k, none⟩ = some v) : A'.cell? ⟨b, k, none⟩ = some v := by
 obtain ⟨o, ho⟩ : ∃ o, A.heap[b]? = some o := ⟨_, Array.getElem?_eq_getElem (block_lt_of_cell hc)⟩
 have hq : o.isCells = true := by
  unfold World.cell? at hc
  simp only [ho] at hc
  cases o <;> first | rfl | cases hc
 rw [World.cell?_of_block (w := A) (h.block b o ho (.inr hq))]; exact hc
theorem Turn.below {B q : Nat} {w A A' : World} (h : Turn B A A') (hb : Below q w A) (hq : q ≤ B) (hA : q ≤ A.heap.size) : Below q w A' := by
 refine hb.trans ⟨h.os, h.tape, h.output, h.size, fun k hk => ?_⟩
 obtain ⟨o, ho⟩ : ∃ o, A.heap[k]? = some o := ⟨_, Array.getElem?_eq_getElem (by omega)⟩
 exact h.block k o ho (.inl (by omega))
theorem Turn.owns {B : Nat} {A A' : World} (h : Turn B A A') {base : Nat} {e : TypeId} {s n : Nat} {v : Value} {xs : List Value} (ho : A.ownsRow base e s v n xs) : A'.ownsRow base e s v n xs := by
 refine ⟨ho.1, ?_⟩
 rcases ho.2 with h1 | ⟨g, cap, cur, e, hg, hc, r⟩
 ·exact .inl h1
 ·exact .inr ⟨g, cap, cur, e, hg, h.heap hc, r⟩
theorem Turn.boxed {B : Nat} {A A' : World} (h : Turn B A A') {q : Nat} {t : TypeId} {v : Value} (hb : Boxed A q t v) : Boxed A' q t v := h.heap hb
structure Kp (n₀ Bs : Nat) (A A' : World) : Prop where
 low : Below n₀ A A'
 own : A'.heap[Bs]? = A.heap[Bs]?
theorem Kp.refl (n₀ Bs : Nat) (A : World) : Kp n₀ Bs A A := ⟨Below.refl _ _, rfl⟩
theorem Kp.trans {n₀ Bs : Nat} {a b c : World} (h : Kp n₀ Bs a b) (k : Kp n₀ Bs b c) : Kp n₀ Bs a c := ⟨h.low.trans k.low, k.own.trans h.own⟩
theorem Kp.of_below {n₀ Bs : Nat} {A A' : World} (h : Below A.heap.size A A') (h1 : n₀ ≤ A.heap.size) (h2 : Bs < A.heap.size) : Kp n₀ Bs A A' := ⟨h.mono h1, h.block _ h2⟩
theorem Kp.cell {n₀ Bs : Nat} {A A' : World} (h : Kp n₀ Bs A A') {k : Nat} {v : Value} (hc : A.cell? ⟨Bs, k, none⟩ = some v) : A'.cell? ⟨Bs, k, none⟩ = some v := by
 rw [World.cell?_of_block (w := A) h.own]; exact hc
def SeqN (F : Fence) (n : Nat) (P : Program) (g : Nat) (lb : Array Value) (encs : Nat → Array Value) (N n₀ Bs : Nat) (w : World) : Prop :=
 ∀ (l : Nat) (J Jx : Nat → World → Prop) (W : World), Below w.heap.size w W → (∀ k A A', Below A.heap.size A A' → J k A → J k A') → (∀ k A A', Below A.heap.size A A' → Jx k A → Jx k A') →
  (∀ k W1, J k W1 → k < N → YieldAt F (n - 1) P l (encs k) W1 fun e W' =>
   (e = .returned (.bool true) ∧ J (k + 1) W' ∧ Kp n₀ Bs W1 W') ∨ (e = .returned (.bool false) ∧ Jx (k + 1) W')) →
  J 0 W → CallsIn F n P g (#[.func (.yield l) #[] #[]] ++ lb) W fun e W' => (∃ v, e = .returned v) ∧ (J N W' ∨ ∃ k, k ≤ N ∧ Jx k W')
def postN (B n₀ Bs : Nat) (I : World → Prop) (Ix : Code → World → Prop) (W : World) : Exit → Act → World → Prop
 | .normal, _, W' => KeepsFrom B W W' ∧ Kp n₀ Bs W W' ∧ I W'
 | .ret, _, W' => KeepsFrom B W W' ∧ Ix .ret W'
 | .exit id, _, W' => KeepsFrom B W W' ∧ Ix (.exit id) W'
 | .goto t, _, W' => KeepsFrom B W W' ∧ Ix (.goto t) W'
 | _, _, _ => False
theorem wpIn_rangeFunc_list {g : Operand} {ps : Array Tmp} {assign body : Code} {Q : Exit → Act → World → Prop} {a : Act} {w : World}
  (hro : F.round = none) (h1 : 1 ≤ n) {gf : Nat} {lb : Array Value} (hg : a.eval g = .func (.func gf) #[] lb) (hFg : F.fn gf) (eg : ∀ args w, (callFunc gf args).run P w = .ok (.enter gf args) w)
  {encs : Nat → Array Value} {N n₀ Bs : Nat} (hseq : SeqN F (n - 1) P gf lb encs N n₀ Bs w) (hn₀ : n₀ ≤ w.heap.size) (hBs : Bs < w.heap.size) (hps : ∀ k, (encs k).size = ps.size)
  (I : Nat → World → Prop) (Ix : Code → Nat → World → Prop) (hI : ∀ k A A', Turn w.heap.size A A' → I k A → I k A') (hIx : ∀ c k A A', Turn w.heap.size A A' → Ix c k A → Ix c k A') (h0 : I 0 w)
  (Ax : Nat → Act → World → Prop) (hAx : ∀ k a' A A', Turn w.heap.size A A' → Ax k a' A → Ax k a' A')
  (hassign : ∀ (l k : Nat) (W : World) (K : Act → World → Prop), I k W → k < N → (∀ a' W', KeepsFrom w.heap.size W W' → Kp n₀ Bs W W' → Ax k a' W' → K a' W') →
   assign.wpIn (F.inRound l) (n - 1 - 1) P (Exit.then K (fun _ _ _ => False)) { tmps := (ps.zip (encs k)).foldl (fun t (p, v) => t.setIfInBounds p v) a.tmps, defers := [] } W)
  (hbody : ∀ (l k : Nat) (a' : Act) (W : World), w.heap.size ≤ l → (∃ r, W.heap[l]? = some (.loop r)) → Ax k a' W → k < N → body.wpIn (F.inRound l) (n - 1 - 1) P (postN w.heap.size n₀ Bs (I (k + 1)) (fun c => Ix c (k + 1)) W) a' W)
  (hdone : ∀ (D : Nat) (W : World), w.heap.size ≤ D → I N W → W.heap[D]? = some (.deferred (some [])) → Q .normal { a with defers := { target := .collected D, args := #[] } :: a.defers } W)
  (hstop : ∀ (D : Nat) (c : Code) (k : Nat) (W : World), w.heap.size ≤ D → k ≤ N → Ix c k W → W.heap[D]? = some (.deferred (some [])) → c.wpIn F n P Q { a with defers := { target := .collected D, args := #[] } :: a.defers } W) :
  (Code.rangeFunc g ps assign body).wpIn F n P Q a w := by
 refine wpIn_rangeFunc fun fn hfn => ?_
 rw [hro]
 obtain ⟨rec, hrec⟩ : ∃ rec : LoopState → Option Code → Loop, rec = fun st pe => { state := st, pending := pe, fn, tmps := a.tmps, params := ps, assign, body, defers := w.heap.size } := ⟨_, rfl⟩
 obtain ⟨W1, hW1⟩ : ∃ W1, (w.alloc (.deferred (some []))).alloc (.loop (rec .ready none)) = W1 := ⟨_, rfl⟩
 have hs1 : W1.heap.size = w.heap.size + 2 := by rw [← hW1]; simp
 have hL1 : W1.heap[w.heap.size + 1]? = some (.loop (rec .ready none)) := by
  have := World.alloc_heap_new (w.alloc (.deferred (some []))) (.loop (rec .ready none))
  rwa [World.size_alloc, hW1] at this
 have hK1 : W1.heap[w.heap.size]? = some (.deferred (some [])) := by
  rw [← hW1]; exact (Below.heap_alloc _ _ _ (by simp)).trans (World.alloc_heap_new w _)
 have hb1 : Below w.heap.size w W1 := by
  rw [← hW1]; exact ((Below.refl _ w).alloc (Nat.le_refl _) _).alloc (by simp) _
 have hI1 : I 0 W1 := hI 0 w W1 (Turn.of_below hb1) h0
 refine ⟨w.heap.size + 1, [{ target := .collected w.heap.size, args := #[] }], W1, { target := .fn (.func gf) lb, args := #[.func (.yield (w.heap.size + 1)) #[] #[]] }, W1, gf,
  #[.func (.yield (w.heap.size + 1)) #[] #[]] ++ lb, W1, ?_, ?_, ?_, ?_, fun _ => h1, ?_⟩
 ·rw [← hW1, hrec]; exact run_enterLoop_outer _ _ _ _ _
 ·simp only [resolve, hg]
  simp [go_sem]
 ·intro f' hf'
  simp [Target.leads] at hf'
  subst hf'; exact hFg
 ·simp [invoke, go_sem, eg]
 have keepB : ∀ (A A' : World) (b : Nat) (o : Obj), Below A.heap.size A A' → A.heap[b]? = some o → A'.heap[b]? = some o := fun A A' b o hb h => (hb.block b (lt_of_block h)).trans h
 refine (hseq (w.heap.size + 1)
  (fun k W => I k W ∧ W.heap[w.heap.size + 1]? = some (.loop (rec .ready none)) ∧ W.heap[w.heap.size]? = some (.deferred (some [])))
  (fun k W => ∃ c, Ix c k W ∧ W.heap[w.heap.size + 1]? = some (.loop (rec .done (some c))) ∧ W.heap[w.heap.size]? = some (.deferred (some [])))
  W1 hb1
  (fun k A A' hb ⟨h1, h2, h3⟩ => ⟨hI k A A' (Turn.of_below hb) h1, keepB _ _ _ _ hb h2, keepB _ _ _ _ hb h3⟩)
  (fun k A A' hb ⟨c, h1, h2, h3⟩ => ⟨c, hIx c k A A' (Turn.of_below hb) h1, keepB _ _ _ _ hb h2, keepB _ _ _ _ hb h3⟩) ?_ ⟨hI1, hL1, hK1⟩).mono ?_
 ·rintro k W ⟨hi, hl, hk⟩ hlt
  have hy := run_yield (P := P) (args := encs k) hl (by rw [hrec]; exact hps k)
  rw [hrec] at hy
  refine ⟨fn, _, assign, body, hy, roundIn_of_wpIn hfn (hassign _ k W _ hi hlt ?_)⟩
  clear hy
  intro a' Wa hkf hbw hax
  have hl1 := hkf.same _ _ (by omega) hl rfl
  have hk1 := hkf.same _ _ (Nat.le_refl _) hk rfl
  have hl2 : (Wa.putObj (w.heap.size + 1) (.loop { rec .ready none with state := .busy })).heap[w.heap.size + 1]? = some (.loop { rec .ready none with state := .busy }) := World.putObj_heap_same (lt_of_block hl1)
  have hk2 : (Wa.putObj (w.heap.size + 1) (.loop { rec .ready none with state := .busy })).heap[w.heap.size]? = some (.deferred (some [])) := (World.putObj_heap_other (by omega)).trans hk1
  have hb2 : Kp n₀ Bs Wa (Wa.putObj (w.heap.size + 1) (.loop { rec .ready none with state := .busy })) := ⟨belowK_b hn₀ Wa _ _ _ (by omega) hl1 rfl rfl, World.putObj_heap_other (by omega)⟩
  refine ⟨_, run_beginRound hl1 (by rw [hrec]), ?_⟩
  refine wpIn_mono (hbody _ k a' _ (by omega) ⟨_, hl2⟩ (hAx k a' _ _ (Turn.put _ hl1 rfl (by omega)) hax) hlt) ?_
  have fin : ∀ (jump : Option Code) (W3 : World), KeepsFrom w.heap.size (Wa.putObj (w.heap.size + 1) (.loop { rec .ready none with state := .busy })) W3 →
    (Instr.endRound (w.heap.size + 1) jump).run P W3 = .ok (.bool jump.isNone) (W3.putObj (w.heap.size + 1) (.loop (rec (if jump.isNone then .ready else .done) jump))) ∧
    W3.heap[w.heap.size + 1]? = some (.loop { rec .ready none with state := .busy }) ∧
    (W3.putObj (w.heap.size + 1) (.loop (rec (if jump.isNone then .ready else .done) jump))).heap[w.heap.size + 1]? = some (.loop (rec (if jump.isNone then .ready else .done) jump)) ∧
    (W3.putObj (w.heap.size + 1) (.loop (rec (if jump.isNone then .ready else .done) jump))).heap[w.heap.size]? = some (.deferred (some [])) := fun jump W3 hk3 => by
   have hl3 := hk3.same _ _ (by omega) hl2 rfl
   have := run_endRound (P := P) jump hl3
   rw [hrec] at this ⊢
   exact ⟨this, by rw [hrec] at hl3; exact hl3, World.putObj_heap_same (lt_of_block hl3), (World.putObj_heap_other (by omega)).trans (hk3.same _ _ (Nat.le_refl _) hk2 rfl)⟩
  rintro e a3 W3 hp
  have turn : ∀ (o : Obj), W3.heap[w.heap.size + 1]? = some (.loop { rec .ready none with state := .busy }) → Turn w.heap.size W3 (W3.putObj (w.heap.size + 1) o) := fun o h => Turn.put o h rfl (by omega)
  match e, hp with
  | .normal, ⟨hk3, hkp3, hi3⟩ =>
   obtain ⟨hr, hl3, hl4, hk4⟩ := fin none W3 hk3
   exact ⟨_, _, hr, .inl ⟨rfl, ⟨hI _ _ _ (turn _ hl3) hi3, hl4, hk4⟩, (hbw.trans (hb2.trans hkp3)).trans ⟨belowK_b hn₀ W3 _ _ _ (by omega) hl3 rfl rfl, World.putObj_heap_other (by omega)⟩⟩⟩
  | .ret, ⟨hk3, hi3⟩ =>
   obtain ⟨hr, hl3, hl4, hk4⟩ := fin (some .ret) W3 hk3
   exact ⟨_, _, hr, .inr ⟨rfl, .ret, hIx _ _ _ _ (turn _ hl3) hi3, hl4, hk4⟩⟩
  | .exit id, ⟨hk3, hi3⟩ =>
   obtain ⟨hr, hl3, hl4, hk4⟩ := fin (some (.exit id)) W3 hk3
   exact ⟨_, _, hr, .inr ⟨rfl, .exit id, hIx _ _ _ _ (turn _ hl3) hi3, hl4, hk4⟩⟩
  | .goto t, ⟨hk3, hi3⟩ =>
   obtain ⟨hr, hl3, hl4, hk4⟩ := fin (some (.goto t)) W3 hk3
   exact ⟨_, _, hr, .inr ⟨rfl, .goto t, hIx _ _ _ _ (turn _ hl3) hi3, hl4, hk4⟩⟩
 ·rintro e W2 ⟨⟨v, rfl⟩, (⟨hi, hl, hk⟩ | ⟨k, hkN, c, hi, hl, hk⟩)⟩
  ·have hend := run_endLoop (P := P) hl (by rw [hrec]; simp)
   rw [hrec] at hend
   exact ⟨none, _, hend, hdone _ _ (Nat.le_refl _) (hI _ _ _ (Turn.put _ hl rfl (by omega)) hi) ((World.putObj_heap_other (by omega)).trans hk)⟩
  ·have hend := run_endLoop (P := P) hl (by rw [hrec]; simp)
   rw [hrec] at hend
   exact ⟨some c, _, hend, hstop _ c k _ (Nat.le_refl _) hkN (hIx c _ _ _ (Turn.put _ hl rfl (by omega)) hi) ((World.putObj_heap_other (by omega)).trans hk)⟩
end Go.Proofs.YtbbbflnnbbaamaaGreatDoor.PK
