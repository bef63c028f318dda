/- Bytes in memory; the walk of the closure put of Encode. -/
import Derived.Test.YtmhneonebjcieaaW5
import Derived.Lib.EndianBits
import Derived.Maps.AppendAt
namespace Go.Proofs.Ytmhneonebjcieaa
open Go.RowKit

theorem wraps63 (n : Int) (h₀ : 0 ≤ n) (h₁ : n < 2 ^ 63) : IntKind.i64.wrap n = n := IntWalk.i64_in _ (by omega)
theorem and127 (n : Nat) (h : (n : Int) < 2 ^ 63) : bits .and .i64 (n : Int) 127 = ((n % 128 : Nat) : Int) := by
  have := bits_mask .i64 63 (by decide) wraps63 7 (by decide) (n : Int) (by omega) h
  rw [show (127 : Int) = 2 ^ 7 - 1 by decide, this]; omega
theorem or128 (n : Nat) (h : n < 128) : bits .or .i64 (n : Int) 128 = (n : Int) + 128 :=
  bits_join_low .i64 63 (by decide) wraps63 7 (n : Int) 128 (by omega) (by omega) (by omega) (by omega) (by decide) (by decide)

theorem Try.infoByte : (Try.prog.info? 5).map (fun i => (i.zero, i.size, i.bytes)) = some (some (.int .u8 0), 1, 1) := by kernel_rfl
def encU (xs : List Nat) : List Value := xs.map fun x => .int .u8 (x : Nat)
theorem encU_len (xs : List Nat) : (encU xs).length = xs.length := by simp [encU]
theorem encU_snoc (xs : List Nat) (x : Nat) : encU (xs ++ [x]) = encU xs ++ [.int .u8 (x : Nat)] := by simp [encU]
theorem one_byte {k : Int} : ∀ u ∈ [Value.int .u8 k], u.oneCell' = true := by simp [Value.oneCell']
/-- The cells of a slice are these bytes. -/
def BytesIn (w : World) (a : Option Addr) (xs : List Nat) : Prop :=
  ∀ k, k < xs.length → ∃ b off, a = some ⟨b, off, none⟩ ∧ w.cell? ⟨b, off + k, none⟩ = some (.int .u8 (xs.getD k 0 : Nat))
theorem BytesIn.below {w w' : World} {a : Option Addr} {xs : List Nat} (h : BytesIn w a xs) (hb : Below w.heap.size w w') : BytesIn w' a xs := fun k hk => by
  obtain ⟨b, off, rfl, hc⟩ := h k hk
  exact ⟨b, off, rfl, keep hc hb⟩
/-- A slice of these bytes. -/
def ByteSl (w : World) (v : Value) (xs : List Nat) : Prop := ∃ a cap, v = .slice a xs.length cap ∧ xs.length ≤ cap ∧ BytesIn w a xs
theorem ByteSl.below {w w' : World} {v : Value} {xs : List Nat} (h : ByteSl w v xs) (hb : Below w.heap.size w w') : ByteSl w' v xs := by
  obtain ⟨a, cap, rfl, hc, hn⟩ := h
  exact ⟨a, cap, rfl, hc, hn.below hb⟩
theorem byteSl_of_owns {w : World} {base : Nat} {e : TypeId} {v : Value} {xs : List Nat} (h : w.ownsRow base e 1 v xs.length (encU xs)) : ByteSl w v xs := by
  obtain ⟨_, h | ⟨g, cap, cur, rfl, hb, hg, hnc, hm, hcs, ht⟩⟩ := h
  · obtain ⟨rfl, h0⟩ := h
    have : xs = [] := List.length_eq_zero_iff.1 h0
    subst this
    exact ⟨none, 0, rfl, Nat.le_refl _, fun k hk => absurd hk (Nat.not_lt_zero _)⟩
  · refine ⟨_, cap, rfl, hnc, fun k hk => ⟨g, 0, rfl, ?_⟩⟩
    rw [Nat.zero_add, cell_of_row w g k _ _ _ hg]
    have : (encU xs)[k]? = some (.int .u8 (xs.getD k 0 : Nat)) := by
      simp [encU, List.getElem?_eq_getElem hk, List.getD_eq_getElem?_getD]
    rw [← ht, List.getElem?_take, if_pos (by omega)] at this
    simpa using this
theorem owns_shape {w : World} {base : Nat} {e : TypeId} {s n : Nat} {v : Value} {xs : List Value} (h : w.ownsRow base e s v n xs) : ∃ a cap, v = .slice a n cap := by
  obtain ⟨_, ⟨rfl, rfl⟩ | ⟨g, cap, cur, rfl, _⟩⟩ := h
  · exact ⟨none, 0, rfl⟩
  · exact ⟨_, cap, rfl⟩
theorem owns_block {w : World} {base : Nat} {e : TypeId} {s n : Nat} {v : Value} {xs : List Value} (h : w.ownsRow base e s v n xs) {g : Nat} (hg : v.ownBlock = some g) : base ≤ g ∧ g < w.heap.size := by
  obtain ⟨_, ⟨rfl, rfl⟩ | ⟨g', cap, cur, rfl, hb, hc, _⟩⟩ := h
  · cases hg
  · simp only [Value.ownBlock, Option.some.injEq] at hg
    subst hg
    exact ⟨hb, lt_of_block hc⟩

/-- A variable's box p and the row that it holds grow: nothing else that was there has changed. -/
structure Grows (p : Nat) (w : World) (v : Value) (w' : World) (v' : Value) : Prop where
  os : w'.os = w.os
  tape : w'.tape = w.tape
  output : w'.output = w.output
  size : w.heap.size ≤ w'.heap.size
  block : ∀ q, q < w.heap.size → q ≠ p → v.ownBlock ≠ some q → w'.heap[q]? = w.heap[q]? ∧ v'.ownBlock ≠ some q
theorem Grows.refl (p : Nat) (w : World) (v : Value) : Grows p w v w v := ⟨rfl, rfl, rfl, Nat.le_refl _, fun _ _ _ h => ⟨rfl, h⟩⟩
theorem Grows.trans {p : Nat} {a b c : World} {u v x : Value} (h : Grows p a u b v) (k : Grows p b v c x) : Grows p a u c x :=
  ⟨k.os.trans h.os, k.tape.trans h.tape, k.output.trans h.output, Nat.le_trans h.size k.size, fun q h1 h2 h3 => by
    obtain ⟨e1, n1⟩ := h.block q h1 h2 h3
    obtain ⟨e2, n2⟩ := k.block q (Nat.lt_of_lt_of_le h1 h.size) h2 n1
    exact ⟨e2.trans e1, n2⟩⟩
theorem Grows.alloc (p : Nat) (w : World) (v : Value) (o : Obj) : Grows p w v (w.alloc o) v :=
  ⟨rfl, rfl, rfl, by simp, fun q h1 _ h3 => ⟨Below.heap_alloc w o q h1, h3⟩⟩
theorem Grows.append {p : Nat} {w w' : World} {v v' : Value} (h : w.grownBy w' v.ownBlock) (hat : v'.ownBlock = v.ownBlock ∨ v'.ownBlock = some w.heap.size) : Grows p w v w' v' :=
  ⟨h.os, h.tape, h.output, h.size, fun q h1 _ h3 => ⟨h.block q h1 (Ne.symm h3), by
    rcases hat with e | e <;> rw [e]
    · exact h3
    · intro e'; rw [Option.some.injEq] at e'; omega⟩⟩
theorem Grows.set (p : Nat) (w : World) (v x : Value) : Grows p w v (w.setCell ⟨p, 0, none⟩ x) v :=
  ⟨rfl, rfl, rfl, by simp [World.setCell], fun q _ h2 h3 => ⟨Below.heap_setCell _ _ _ _ h2, h3⟩⟩
theorem Grows.below {p : Nat} {w w' : World} {v v' : Value} (h : Grows p w v w' v') (hp : p < w.heap.size) (hv : ∀ g, v.ownBlock = some g → p < g) : Below p w w' :=
  ⟨h.os, h.tape, h.output, h.size, fun k hk => (h.block k (by omega) (by omega) (fun e => by have := hv k e; omega)).1⟩
theorem Grows.cell {p : Nat} {w w' : World} {v v' : Value} (h : Grows p w v w' v') {q : Nat} (h1 : q < w.heap.size) (h2 : q ≠ p) (h3 : v.ownBlock ≠ some q) (k : Nat) : w'.cell? ⟨q, k, none⟩ = w.cell? ⟨q, k, none⟩ :=
  World.cell?_of_block (w := w) (h.block q h1 h2 h3).1
/-- The box p holds the slice v of these bytes, in a row of the call's own. -/
structure PutSt (p : Nat) (w : World) (v : Value) (xs : List Nat) : Prop where
  box : w.heap[p]? = some (.cells #[v] 25 (0, 0))
  own : w.ownsRow (p + 1) 5 1 v xs.length (encU xs)
theorem PutSt.alloc {p : Nat} {w : World} {v : Value} {xs : List Nat} (h : PutSt p w v xs) (o : Obj) : PutSt p (w.alloc o) v xs :=
  ⟨(Below.heap_alloc w o p (lt_of_block h.box)).trans h.box, h.own.alloc o⟩
theorem PutSt.below {p : Nat} {w w' : World} {v : Value} {xs : List Nat} (h : PutSt p w v xs) (hb : Below w.heap.size w w') : PutSt p w' v xs := by
  refine ⟨(hb.block p (lt_of_block h.box)).trans h.box, h.own.1, ?_⟩
  rcases h.own.2 with h1 | ⟨g, cap, cur, e, hg, hc, r⟩
  · exact .inl h1
  · exact .inr ⟨g, cap, cur, e, hg, (hb.block g (lt_of_block hc)).trans hc, r⟩
theorem PutSt.step {p : Nat} {w w' : World} {v v' : Value} {xs : List Nat} {b : Nat} (h : PutSt p w v xs) (hg : w.grownBy w' v.ownBlock) (ho : w'.ownsRow (p + 1) 5 1 v' (xs.length + 1) (encU xs ++ [.int .u8 (b : Nat)])) :
    w'.heap[p]? = some (.cells #[v] 25 (0, 0)) ∧ PutSt p (w'.setCell ⟨p, 0, none⟩ v') v' (xs ++ [b]) := by
  have hp : w'.heap[p]? = some (.cells #[v] 25 (0, 0)) := (hg.block p (lt_of_block h.box) (fun e => by have := (owns_block h.own e.symm).1; omega)).trans h.box
  refine ⟨hp, ?_, ?_⟩
  · rw [heap_setCell_same w' p 0 _ _ _ hp]; rfl
  · rw [encU_snoc, show (xs ++ [b]).length = xs.length + 1 by simp]
    exact ownsRow_setCell_below ho (a := ⟨p, 0, none⟩) (by show p < p + 1; omega) _

set_option maxRecDepth 100000 in
set_option maxHeartbeats 2000000 in
theorem put_any (n p : Nat) (xs : List Nat) (v : Value) (w : World) (hn : n ≤ 4294967295) (hl : xs.length ≤ 2000) (hst : PutSt p w v xs) :
    Calls Try.prog 38 #[.int .i64 n, .pointer (some ⟨p, 0, none⟩)] w fun e w' => e = .returned (.tuple #[]) ∧ ∃ v', PutSt p w' v' (xs ++ grp n) ∧ Grows p w v w' v' := by
  obtain ⟨N, hN⟩ : ∃ N : Nat, N = 4294967295 := ⟨_, rfl⟩
  rw [← hN] at hn
  have HN := Lib.hid hN; clear hN
  have hgl := grp_len 4 n (by have := HN.out; omega)
  have HSt := Lib.hid hst
  clear hst
  obtain ⟨i0, hi, hz0, hz1, hz2⟩ := info_parts Try.infoByte
  go_enter Try.func38, Try.ntmps38
  go_wp2_with fail
  go_loopw [0] (fun i wr => ∃ (m : Nat) (ys : List Nat) (u : Value), i = .int .i64 m ∧ m ≤ n ∧ ys ++ grp m = xs ++ grp n ∧ PutSt p wr u ys ∧ Grows p w v wr u) (fun i _ => (intOf i).toNat)
  case atStart => exact ⟨n, xs, v, rfl, Nat.le_refl _, rfl, HSt.out, Grows.refl _ _ _⟩
  case round =>
    obtain ⟨m, ys, u, rfl, hmn, hys, hs, hg⟩ := hrel
    have hyl : ys.length ≤ xs.length + 5 := by
      have := congrArg List.length hys
      rw [List.length_append, List.length_append] at this
      omega
    have hy63 : ys.length + 1 ≤ maxLen := by unfold maxLen; omega
    have HS := Lib.hid hs; have HG := Lib.hid hg; have HY := Lib.hid hys
    have fb := frozen_of_row wr p 0 _ _ hs.box
    have cb : wr.cell? ⟨p, 0, none⟩ = some u := cell_of_row wr p 0 _ _ _ hs.box
    have hpw : p < wr.heap.size := lt_of_block hs.box
    have HBw : Hid (∀ o, p + 1 ≤ (wr.alloc o).heap.size) := Lib.hid fun o => by simp; omega
    have HBy : Hid ((ys.length + 1) * 1 ≤ 140737488355328) := Lib.hid (by omega)
    clear hs hg hys
    by_cases h127 : m < 128
    · have hmi : ¬ (127 : Int) < (m : Int) := by omega
      have hm8 : (m : Int) ≤ 255 := by omega
      have HGr : Hid (ys ++ [m] = xs ++ grp n) := Lib.hid (by rw [← HY.out, grp_lt h127])
      clear hgl
      go_wp2_with (at_builtin; refine wpList_append_own_at _ rfl _ _ 25 rfl (p + 1) 5 i0 (.int .u8 0) 1 1 Try.underlying25 hi hz0 hz1 hz2 rfl (by decide) _ _ _ rfl (HS.out.own.alloc _) ⟨wr.heap.size, 0, none⟩ 1 1 [.int .u8 (m : Int)] rfl rfl (cell_one_new _ _ _) one_byte hy63 HBy.out (HBw.out _) ?_; intro v' w4 hown4 hgrow4 _ hat4; obtain ⟨hbox4, hst4⟩ := (HS.out.alloc _).step hgrow4 hown4; obtain ⟨va, vc, rfl⟩ := owns_shape hown4; have HG4 := Lib.hid (HG.out.trans ((Grows.alloc p _ _ _).trans ((Grows.append (p := p) hgrow4 hat4).trans (Grows.set p w4 _ (.slice va (ys.length + 1) vc))))); have HS4 := Lib.hid hst4; have cb4 := cell_of_row w4 p 0 _ _ _ hbox4; have fb4 := frozen_of_row w4 p 0 _ _ hbox4; clear hown4 hgrow4 hat4 hst4 hbox4)
      go_end0
      exact ⟨rfl, _, by rw [← HGr.out]; exact HS4.out, HG4.out⟩
    · have hmi : (127 : Int) < (m : Int) := by omega
      have ha := and127 m (by have := HN.out; omega)
      obtain ⟨r, hr⟩ : ∃ r, m % 128 = r := ⟨_, rfl⟩
      have hr8 : r < 128 := by omega
      rw [hr] at ha
      have ho : bits .or .i64 (r : Int) 128 = (r : Int) + 128 := or128 r hr8
      have hr9 : (r : Int) + 128 ≤ 255 := by omega
      have HGr : Hid ((ys ++ [r + 128]) ++ grp (m / 128) = xs ++ grp n) := Lib.hid (by rw [← HY.out, grp_ge (n := m) (by omega), hr, List.append_assoc]; rfl)
      have HR := Lib.hid hr
      clear hr hgl
      go_wp2_with (at_builtin; refine wpList_append_own_at _ rfl _ _ 25 rfl (p + 1) 5 i0 (.int .u8 0) 1 1 Try.underlying25 hi hz0 hz1 hz2 rfl (by decide) _ _ _ rfl (HS.out.own.alloc _) ⟨wr.heap.size, 0, none⟩ 1 1 [.int .u8 ((r + 128 : Nat) : Int)] rfl rfl (cell_one_new _ _ _) one_byte hy63 HBy.out (HBw.out _) ?_; intro v' w4 hown4 hgrow4 _ hat4; obtain ⟨hbox4, hst4⟩ := (HS.out.alloc _).step hgrow4 hown4; obtain ⟨va, vc, rfl⟩ := owns_shape hown4; have HG4 := Lib.hid (HG.out.trans ((Grows.alloc p _ _ _).trans ((Grows.append (p := p) hgrow4 hat4).trans (Grows.set p w4 _ (.slice va (ys.length + 1) vc))))); have HS4 := Lib.hid hst4; have cb4 := cell_of_row w4 p 0 _ _ _ hbox4; have fb4 := frozen_of_row w4 p 0 _ _ hbox4; clear hown4 hgrow4 hat4 hst4 hbox4)
      go_roundw
      case rel => exact ⟨m / 128, ys ++ [r + 128], _, by go_num, by omega, HGr.out, HS4.out, HG4.out⟩
      case measure => simp [intOf]; omega
end Go.Proofs.Ytmhneonebjcieaa
