/- Packed of several texts. -/
import Derived.Test.YtbbbflnnbbaamaaGreatDoorH10
import Derived.Laws.Closers25b
import Derived.Test.YtbbbflnnbbaamaaGreatDoorH11
import Derived.OpenShut
import Derived.Deep.Slices
import Derived.Test.YtbbbflnnbbaamaaGreatDoorH26
import Derived.Lib.SmallJoins
import Derived.Test.YtbbbflnnbbaamaaGreatDoorH19
namespace Go.Proofs.YtbbbflnnbbaamaaGreatDoor.PK
open Go.RowKit

def isW (a : Int) : Prop := 0 ≤ a ∧ a < 4294967296
structure Mach where
 rg : List Int
 mem : List Int
 blk : Nat
 pc : Nat
 tch : Bool
inductive Run where
 | on (s : Mach)
 | out (mem : List Int) (e : Int) (n : Nat) (t : Bool)
end Go.Proofs.YtbbbflnnbbaamaaGreatDoor.PK
namespace Go.Proofs.YtbbbflnnbbaamaaGreatDoor.PK
open Go.RowKit

def WsIn (w : World) (a : Option Addr) (l : List Int) : Prop :=
 ∀ k, k < l.length → ∃ b off, a = some ⟨b, off, none⟩ ∧ w.cell? ⟨b, off + k, none⟩ = some (.int .u32 (l.getD k 0))
theorem WsIn.below {w w' : World} {a : Option Addr} {l : List Int} (h : WsIn w a l) (hb : Below w.heap.size w w') : WsIn w' a l := fun k hk => by
 obtain ⟨b, off, rfl, hc⟩ := h k hk
 exact ⟨b, off, rfl, keep hc hb⟩
end Go.Proofs.YtbbbflnnbbaamaaGreatDoor.PK
namespace Go.Proofs.YtbbbflnnbbaamaaGreatDoor.PK
open Go.RowKit Go.Joins Go.Deep Go.ChangeShapes Go.WideShapes

structure InsBd (x : Ins) : Prop where
 im : x.im < 4294967296
 fl : -9223372036854775808 ≤ x.fl ∧ x.fl < 9223372036854775808
 ar : x.ar.length ≤ maxLen
 tt : x.tt.length ≤ maxLen
structure FunBd (F : Fun) : Prop where
 ps : F.ps.length ≤ maxLen
 sl : F.sl.length ≤ maxLen
 bs : F.bs.length ≤ maxLen
 bk : ∀ k, k < F.bs.length → (atBk F.bs k).length ≤ maxLen
 ins : ∀ k i, k < F.bs.length → i < (atBk F.bs k).length → InsBd (insA F k i)
end Go.Proofs.YtbbbflnnbbaamaaGreatDoor.PK
namespace Go.Proofs.YtbbbflnnbbaamaaGreatDoor.PK
open Go.RowKit

abbrev inV (l : List Int) (ls : List (List Int)) (a b : Option Addr) (c e : Nat) : Value := .agg #[.slice a l.length c, .slice b ls.length e]
structure InSm (l : List Int) (ls : List (List Int)) : Prop where
 ar : l.length ≤ 20
 me : ls.length ≤ 20
 row : ∀ k, k < ls.length → (ls.getD k []).length ≤ 50
end Go.Proofs.YtbbbflnnbbaamaaGreatDoor.PK
namespace Go.Proofs.YtbbbflnnbbaamaaGreatDoor.PK
open Go.RowKit

def frmR (ret : Int) (nsl nar : Nat) (op wd fl : Int) (im : Nat) : Int × Int × Bool :=
 if op = 0 then (0, 0, isNum wd && (decide (fl = 0) && decide (im < 2 ^ wd.toNat)))
 else if op = 14 then (2, 0, decide (wd = 1) && (decide (fl = 0) && decide (im ≤ 9)))
 else if op = 15 then (3, 0, (isNum wd || decide (wd = 33)) && (decide (fl = 0) && decide (im = 0)))
 else if op = 16 ∨ op = 17 ∨ op = 18 ∨ op = 21 then (1, 0, isNum wd && (decide (fl = 0) && decide (im = 0)))
 else if op = 19 ∨ op = 20 then (2, 0, isNum wd && (decide (fl = 0) && (decide (1 ≤ im) && (decide ((im : Int) < wd) && decide (wd.toNat % im = 0)))))
 else if op = 22 ∨ op = 23 then (0, 0, isNum wd && (decide (fl = 0) && decide (im = 0)))
 else if op = 24 then (0, 0, decide (wd = 33) && (decide (fl = 0) && decide (im < nsl)))
 else if op = 25 then (2, 0, decide (wd = 33) && (decide (im = 0) && (decide (fl = 0) || decide (fl = 8))))
 else if op = 26 then (1, 0, (decide (wd = 8) || (decide (wd = 16) || decide (wd = 32))) && (decide (fl = 0) && decide (im = 0)))
 else if op = 27 then (2, 0, decide (wd = 0) && (decide (fl = 0) && decide (im = 0)))
 else if op = 28 then (-1, -1, (isNum wd || decide (wd = 33)) && ((decide (fl = 0) && decide (im = 0)) && decide (0 < nar)))
 else if op = 29 then (0, 1, decide (wd = 0) && (decide (fl = 0) && decide (im = 0)))
 else if op = 30 then (1, 2, decide (wd = 0) && (decide (fl = 0) && decide (im = 0)))
 else if op = 31 then (if 0 < ret then 1 else 0, 0, decide (wd = 0) && (decide (fl = 0) && decide (im = 0)))
 else if op = 32 then (0, 0, decide (wd = 0) && (decide (fl = 0) && decide (im = 0)))
 else if 1 ≤ op ∧ op ≤ 13 then (2, 0, isNum wd && (decide (im = 0) && flOk op fl))
 else (0, 0, false)
theorem sizeFm : (Tryz.prog.info? 142).map (·.size) = some 3 := by kernel_rfl
theorem oneFm (a t : Int) (b : Bool) : (#[.int .i64 a, .int .i64 t, .bool b] : Array Value).all (·.oneCell') = true := by simp [Value.oneCell']
theorem there_row3 {w : World} {b : Nat} {v0 v1 v2 : Value} {t : TypeId} (h : w.heap[b]? = some (.cells #[v0, v1, v2] t (0, 0))) : w.there b 0 3 := fun j hj => ⟨by
 rw [cell_of_row w b _ _ _ _ h]
 match j, hj with
 | 0, _ => rfl
 | 1, _ => rfl
 | 2, _ => rfl, frozen_of_row w b _ _ _ h⟩
theorem set_row3 {w : World} {b : Nat} {v0 v1 v2 : Value} {t : TypeId} (h : w.heap[b]? = some (.cells #[v0, v1, v2] t (0, 0))) (x0 x1 x2 : Value) :
  (w.setCells b 0 [x0, x1, x2]).heap[b]? = some (.cells #[x0, x1, x2] t (0, 0)) := heap_setCell_same _ b 2 _ t x2 (heap_setCell_same _ b 1 _ t x1 (heap_setCell_same w b 0 _ t x0 h))
theorem save_row3 (w : World) (b : Nat) (x0 x1 x2 : Value) : Save b w (w.setCells b 0 [x0, x1, x2]) := ((Save.set b 0 w x0).trans (Save.set b 1 _ x1)).trans (Save.set b 2 _ x2)
def FmPost (r : Int × Int × Bool) (w : World) (e : Ending) (w' : World) : Prop := e = .returned (.agg #[.int .i64 r.1, .int .i64 r.2.1, .bool r.2.2]) ∧ Below w.heap.size w w'

theorem wpList_store_form {ops : Array Oper} {rest : List Oper} {dst : Option Tmp} {ty : TypeId} {pos : String} {after : _} {a : Act} {w : World} {Q : Exit → Act → World → Prop} {T : TypeId} (x y : Operand) (b : Nat) (v0 v1 v2 : Value) (hT : T = 142) (hx : a.eval x = .pointer (some ⟨b, 0, none⟩)) (hy : a.eval y = .agg #[v0, v1, v2]) (ht : w.there b 0 3) (h1 : (#[v0, v1, v2] : Array Value).all (·.oneCell') = true)
  (h : wpList Tryz.prog ops Q rest (a.put dst undef) (w.setCells b 0 #[v0, v1, v2].toList)) : wpList Tryz.prog ops Q ({ dst := dst, op := .store T x y, type := ty, pos := pos, after := after, guard := none } :: rest) a w :=
 wpList_store_mid rfl T x y rfl b 0 #[v0, v1, v2] hx hy ht (hT ▸ sizeFm) h1 h
theorem wpList_store_none {P : Program} {ops : Array Oper} {rest : List Oper} {ty : TypeId} {pos : String} {after : _} {a : Act} {w : World} {Q : Exit → Act → World → Prop} {T : TypeId} {x y : Operand}
  (h : wpList P ops Q ({ dst := none, op := .store T x y, type := ty, pos := pos, after := after, guard := none } :: rest) a w) : wpList P ops Q ({ dst := none, op := .store T x y, type := ty, pos := pos, after := after, guard := none } :: rest) a w := h
end Go.Proofs.YtbbbflnnbbaamaaGreatDoor.PK
