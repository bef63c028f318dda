/- Packed of several texts. -/
import Derived.WalkKit
namespace Go.Proofs.YtbbbflnnbbaamaaGreatDoor.Mini

/-! ### Trees keyed by numbers -/
inductive T (α : Type) where
 | nil
 | node (l : T α) (v : Option α) (r : T α)
def T.getF {α : Type} (f : Nat) : T α → Nat → Option α :=
 Nat.rec (motive := fun _ => T α → Nat → Option α) (fun _ _ => none)
  (fun _ go t n => T.casesOn (motive := fun _ => Option α) t none (fun l v r => Nat.rec (motive := fun _ => Option α) v (fun m _ => Nat.rec (motive := fun _ => Option α) (go l (Nat.div m 2)) (fun _ _ => go r (Nat.div m 2)) (Nat.mod m 2)) n)) f
def T.setK {α β : Type} (f : Nat) : T α → Nat → α → (T α → β) → β :=
 Nat.rec (motive := fun _ => T α → Nat → α → (T α → β) → β) (fun t _ _ k => k t)
  (fun _ go t n x k => T.casesOn (motive := fun _ => β) t
   (Nat.rec (motive := fun _ => β) (k (.node .nil (some x) .nil)) (fun m _ => Nat.rec (motive := fun _ => β) (go .nil (Nat.div m 2) x fun l => k (.node l none .nil)) (fun _ _ => go .nil (Nat.div m 2) x fun r => k (.node .nil none r)) (Nat.mod m 2)) n)
   (fun l v r => Nat.rec (motive := fun _ => β) (k (.node l (some x) r)) (fun m _ => Nat.rec (motive := fun _ => β) (go l (Nat.div m 2) x fun l' => k (.node l' v r)) (fun _ _ => go r (Nat.div m 2) x fun r' => k (.node l v r')) (Nat.mod m 2)) n)) f
def deep : Nat := 40
def far : Nat := 1000000000
def T.get {α : Type} (t : T α) (n : Nat) : Option α := T.getF deep t n
def T.set {α : Type} (t : T α) (n : Nat) (x : α) : T α := T.setK deep t n x id

/-! ### Strictness -/
def forceN {β : Type} (n : Nat) (k : Nat → β) : β := Nat.rec (k 0) (fun m _ => k (Nat.succ m)) n
def forceI {β : Type} (n : Int) (k : Int → β) : β := k n
def forceB {β : Type} (b : Bool) (k : Bool → β) : β := k b
def forceV {β : Type} (v : Value) (k : Value → β) : β := k v

/-! ### Values with names -/
inductive Cap where
 | exact (c : Nat)
 | open (e : Nat)
inductive MV where
 | v (x : Value)
 | ptr (n off : Nat)
 | sl (n off len : Nat) (c : Cap)
 | emp
 | yld (n : Nat)
 | mref (n : Nat)
 | clo (f : Fn) (caps : List MV)
 | agg (cs : List MV)
 | tup (vs : List MV)
def MV.undef : MV := .v Go.undef
def MV.cells : MV → List MV
 | .agg cs => cs
 | .v (.agg cs) => cs.toList.map .v
 | m => [m]
def MV.leaf : MV → Bool
 | .agg _ | .tup _ => false
 | .v (.agg _) | .v (.tuple _) => false
 | _ => true

structure Row where
 ty : TypeId
 esz : Nat
 size : Nat
 opn : Bool
 cs : T MV
 zero : List MV
structure Fr where
 n : Nat
 t : T MV
 marks : List Nat
inductive Jmp where
 | ret
 | exit (i : Nat)
inductive LpSt where
 | ready
 | busy
 | done
structure Lp where
 st : LpSt
 fr : Fr
 ps : List Tmp
 asg : Code
 bd : Code
 pend : Option Jmp
 dfr : Nat
inductive Cell where
 | live (r : Row)
 | dead
 | lp (q : Lp)
 | dfr
 | mp (kk : IntKind) (es : List (Int × Value))
def Row.cell (r : Row) (i : Nat) : MV := (r.cs.get i).getD (r.zero.getD (i % r.esz) MV.undef)
abbrev Heap := T Cell
inductive Ev where
 | rd
 | wr (c : Cell)
abbrev Log := List (Nat × Ev)

/-! ### Programs of heap steps -/
inductive Prg where
 | ret (v : MV)
 | fail
 | get (n : Nat) (k : Row → Prg)
 | set (n : Nat) (r : Row) (k : Prg)
 | new (r : Row) (k : Nat → Prg)
 | kill (n : Nat) (k : Prg)
 | getC (n : Nat) (k : Cell → Prg)
 | setC (n : Nat) (c : Cell) (k : Prg)
 | newC (c : Cell) (k : Nat → Prg)
 | sub (p : Prg) (k : MV → Log → Prg)
def run : Prg → Heap → Nat → Log → Option (MV × Heap × Nat × Log)
 | .ret v, H, c, l => some (v, H, c, l)
 | .fail, _, _, _ => none
 | .get n k, H, c, l => match H.get n with
  | some (.live r) => run (k r) H c ((n, .rd) :: l)
  | _ => none
 | .set n r k, H, c, l => match H.get n, Nat.ble far n with
  | some (.live _), false => T.setK deep H n (.live r) fun H => run k H c ((n, .wr (.live r)) :: l)
  | _, _ => none
 | .new r k, H, c, l => match H.get c, Nat.ble far c with
  | none, false => T.setK deep H c (.live r) fun H => forceN (Nat.succ c) fun c' => run (k c) H c' ((c, .wr (.live r)) :: l)
  | _, _ => none
 | .kill n k, H, c, l => match H.get n, Nat.ble far n with
  | some (.live _), false => T.setK deep H n .dead fun H => run k H c ((n, .wr .dead) :: l)
  | _, _ => none
 | .getC n k, H, c, l => match H.get n with
  | some x => run (k x) H c ((n, .rd) :: l)
  | none => none
 | .setC n x k, H, c, l => match H.get n, Nat.ble far n with
  | some _, false => T.setK deep H n x fun H => run k H c ((n, .wr x) :: l)
  | _, _ => none
 | .newC x k, H, c, l => match H.get c, Nat.ble far c with
  | none, false => T.setK deep H c x fun H => forceN (Nat.succ c) fun c' => run (k c) H c' ((c, .wr x) :: l)
  | _, _ => none
 | .sub p k, H, c, l => match run p H c [] with
  | some (v, H', c', l') => run (k v l') H' c' (l' ++ l)
  | none => none

/-! ### Frames -/
def Fr.ev (F : Fr) : Operand → MV
 | .tmp i => (F.t.get i).getD MV.undef
 | .const v => .v v
 | .global g => .v (.pointer (some ⟨g, 0, none⟩))
 | .func f => .v (.func (.func f) #[] #[])
def Fr.evK {β : Type} (F : Fr) (x : Operand) (k : MV → β) : β :=
 match x with
 | .tmp i => match F.t.get i with
  | some m => k m
  | none => k MV.undef
 | .const v => k (.v v)
 | .global g => k (.v (.pointer (some ⟨g, 0, none⟩)))
 | .func f => k (.v (.func (.func f) #[] #[]))
def Fr.putK (F : Fr) (d : Option Tmp) (v : MV) (k : Fr → Prg) : Prg :=
 match d with
 | none => k F
 | some i => match F with
  | ⟨n, t, ms⟩ => Bool.casesOn (motive := fun _ => Prg) (Nat.ble n i) (Bool.casesOn (motive := fun _ => Prg) (Nat.ble far i) (T.setK deep t i v fun t => k ⟨n, t, ms⟩) .fail) .fail
def evsK {β : Type} (F : Fr) : List Operand → (List MV → β) → β
 | [], k => k []
 | x :: xs, k => F.evK x fun m => evsK F xs fun ms => k (m :: ms)

/-! ### Operations -/
section
variable (P : Program)
def pureP {α : Type} : Sem α → Option α
 | .pure a => some a
 | .program k => pureP (k P)
 | _ => none
def pureK (s : Sem Value) (k : MV → Prg) : Prg :=
 match pureP P s with
 | some r => forceV r fun r => k (.v r)
 | none => .fail
def isAggB (t : TypeId) : Option Bool :=
 match P.underlying t with
 | some (.struct _) | some (.array _ _) => some true
 | some _ => some false
 | none => none
def idxK (m : MV) (b : Nat) (k : Nat → Prg) : Prg :=
 match m with
 | .v (.int _ (.ofNat n)) => match Nat.ble b n with
  | false => k n
  | true => .fail
 | _ => .fail
def natK (m : MV) (k : Nat → Prg) : Prg :=
 match m with
 | .v (.int _ (.ofNat n)) => k n
 | _ => .fail
def fillK {β : Type} : T MV → Nat → List MV → (T MV → β) → β
 | t, _, [], k => k t
 | t, i, m :: ms, k => T.setK deep t i m fun t => forceN (Nat.succ i) fun i => fillK t i ms k
def readK {β : Type} (r : Row) : Nat → Nat → (List MV → β) → β
 | 0, _, k => k []
 | n + 1, i, k =>
  match r.cs.get i with
  | some m => forceN (Nat.succ i) fun i => readK r n i fun ms => k (m :: ms)
  | none => match r.zero.getD (i % r.esz) MV.undef with
   | m => forceN (Nat.succ i) fun i => readK r n i fun ms => k (m :: ms)
def newRow (ty esz size : Nat) (opn : Bool) (cells : List MV) (zero : List MV) (k : Nat → Prg) : Prg :=
 match cells.all MV.leaf && zero.all MV.leaf, Nat.ble far size with
 | true, false => fillK .nil 0 cells fun cs => .new ⟨ty, esz, size, opn, cs, zero⟩ k
 | _, _ => .fail
def boxK (t : TypeId) (cells : List MV) (k : MV → Prg) : Prg :=
 forceN cells.length fun n => newRow t n n false cells [] fun a => k (.ptr a 0)
def loadK (t : TypeId) (m : MV) (k : MV → Prg) : Prg :=
 match m with
 | .ptr n off => .get n fun r =>
  match isAggB P t with
  | some true => match P.info? t with
   | some i => match Nat.ble (off + i.size) r.size with
    | true => readK r i.size off fun ms => k (.agg ms)
    | false => .fail
   | none => .fail
  | some false => match Nat.ble r.size off with
   | false => match r.cs.get off with
    | some m => k m
    | none => match r.zero.getD (off % r.esz) MV.undef with | m => k m
   | true => .fail
  | none => .fail
 | _ => .fail
def storeCellsK (n off : Nat) (r : Row) (cells : List MV) (k : Prg) : Prg :=
 match r with
 | ⟨ty, esz, size, opn, t, zero⟩ => match cells.all MV.leaf, Nat.ble (off + cells.length) size with
  | true, true => fillK t off cells fun cs => .set n ⟨ty, esz, size, opn, cs, zero⟩ k
  | _, _ => .fail
def storeK (t : TypeId) (m x : MV) (k : MV → Prg) : Prg :=
 match m with
 | .ptr n off => match P.info? t with
  | some i => match Nat.beq x.cells.length i.size with
   | true => .get n fun r => storeCellsK n off r x.cells (k MV.undef)
   | false => .fail
  | none => .fail
 | _ => .fail
def spliceL : Nat → List MV → List MV → List MV
 | _, [], cs => cs
 | 0, m :: ms, _ :: cs => m :: spliceL 0 ms cs
 | 0, _ :: _, [] => []
 | n + 1, ms, c :: cs => c :: spliceL n ms cs
 | _ + 1, _ :: _, [] => []
def fillM (place : Nat → Option (Nat × Nat)) (cells : List MV) : List (Nat × MV) → Option (List MV)
 | [] => some cells
 | (i, m) :: rest => match place i with
  | none => none
  | some (off, size) =>
   match Nat.beq m.cells.length size && Nat.ble (off + size) cells.length with
   | true => fillM place (spliceL off m.cells cells) rest
   | false => none
def placesL : List Field → Option (List (Nat × Nat))
 | [] => some []
 | f :: fs => match P.info? f.type, placesL fs with
  | some i, some r => some ((f.offset, i.size) :: r)
  | _, _ => none
def buildM (t : TypeId) (parts : List (Nat × MV)) : Option (List MV) :=
 match P.info? t with
 | some i => match i.zero with
  | some z => match P.underlying t with
   | some (.struct fields) => match placesL P fields.toList with
    | some pl => fillM (fun j => pl[j]?) (z.cells.toList.map .v) parts
    | none => none
   | some (.array _ e) => match P.info? e with
    | some ie => fillM (fun j => some (j * ie.size, ie.size)) (z.cells.toList.map .v) parts
    | none => none
   | _ => none
  | none => none
 | none => none
def zeroL (zs : List MV) (n : Nat) : List MV := (List.range n).map fun i => zs.getD (i % zs.length) (.v default)
def evps (F : Fr) : List (Nat × Operand) → List (Nat × MV)
 | [] => []
 | (i, x) :: rest => (i, F.ev x) :: evps F rest
def strictK {β : Type} : List MV → (List MV → β) → β
 | [], k => k []
 | m :: ms, k => match m with
  | .v x => strictK ms fun ms => k (.v x :: ms)
  | .ptr n o => strictK ms fun ms => k (.ptr n o :: ms)
  | .sl n o l c => strictK ms fun ms => k (.sl n o l c :: ms)
  | .emp => strictK ms fun ms => k (.emp :: ms)
  | .yld n => strictK ms fun ms => k (.yld n :: ms)
  | .mref n => strictK ms fun ms => k (.mref n :: ms)
  | .clo f cs => strictK ms fun ms => k (.clo f cs :: ms)
  | .agg cs => strictK ms fun ms => k (.agg cs :: ms)
  | .tup cs => strictK ms fun ms => k (.tup cs :: ms)
def elemInfo (t : TypeId) : Option (TypeId × TypeInfo) :=
 match P.underlying t with
 | some (.slice e) => match P.info? e with
  | some i => some (e, i)
  | none => none
 | _ => none
def buildSliceK (t : TypeId) (len : Nat) (parts : List (Nat × MV)) (k : MV → Prg) : Prg :=
 match elemInfo P t with
 | some (e, i) => match i.zero, Nat.ble 1 i.size, Nat.ble (len * i.size) 10000 with
  | some z, true, true => match fillM (fun j => some (j * i.size, i.size)) (zeroL (z.cells.toList.map .v) (len * i.size)) parts with
   | some cells => strictK cells fun cells => forceN len fun len => forceN (len * i.size) fun sz => newRow e i.size sz false cells [] fun a => k (.sl a 0 len (.exact len))
   | none => .fail
  | _, _, _ => .fail
 | none => .fail
def makeSliceK (t : TypeId) (l c : MV) (k : MV → Prg) : Prg :=
 match elemInfo P t with
 | some (e, i) => match i.zero, Nat.ble 1 i.size with
  | some z, true => natK c fun c => natK l fun l => match Nat.ble l c && Nat.beq z.cells.size i.size, Nat.ble far (c * (i.bytes + i.size)) with
   | true, false => forceN (c * i.size) fun sz => forceN c fun c => forceN l fun l => newRow e i.size sz false [] (z.cells.toList.map .v) fun a => k (.sl a 0 l (.exact c))
   | _, _ => .fail
  | _, _ => .fail
 | none => .fail
def boundK (F : Fr) (x : Option Operand) (d b : Nat) (k : Nat → Prg) : Prg :=
 match x with
 | none => k d
 | some x => F.evK x fun m => natK m fun n => match Nat.ble n b with
  | true => k n
  | false => .fail
def plainK (F : Fr) (x : Option Operand) (k : Option Value → Prg) : Prg :=
 match x with
 | none => k none
 | some x => F.evK x fun m => match m with
  | .v v => k (some v)
  | _ => .fail
def sliceK (F : Fr) (t : TypeId) (x : MV) (lo hi mx : Option Operand) (k : MV → Prg) : Prg :=
 match P.underlying t with
 | some (.slice e) => match P.info? e with
  | none => .fail
  | some i => match x with
   | .sl n off len c => match mx, c with
    | some m, .exact c => boundK F (some m) c c fun m => boundK F hi m m fun h => boundK F lo 0 h fun l => match hi with
     | none => .fail
     | some _ => forceN (h - l) fun len' => forceN (if m = l then off else off + l * i.size) fun off' => forceN (m - l) fun c' => k (.sl n off' len' (.exact c'))
    | none, .exact c => boundK F hi len c fun h => boundK F lo 0 h fun l =>
     forceN (h - l) fun len' => forceN (if c = l then off else off + l * i.size) fun off' => forceN (c - l) fun c' => k (.sl n off' len' (.exact c'))
    | some m, .open _ => boundK F (some m) len len fun m => boundK F hi m m fun h => boundK F lo 0 h fun l => match hi with
     | none => .fail
     | some _ => forceN (h - l) fun len' => forceN (if m = l then off else off + l * i.size) fun off' => forceN (m - l) fun c' => k (.sl n off' len' (.exact c'))
    | none, .open d => boundK F hi len len fun h => boundK F lo 0 h fun l => match Nat.ble len l with
     | false => forceN (h - l) fun len' => forceN (off + l * i.size) fun off' => forceN (d + l) fun d' => k (.sl n off' len' (.open d'))
     | true => k .emp
   | .v x => plainK F lo fun lo => plainK F hi fun hi => plainK F mx fun mx => pureK P (Instr.slice t x lo hi mx) k
   | .emp => match mx with
    | none => boundK F hi 0 0 fun h => boundK F lo 0 h fun _ => k .emp
    | some _ => .fail
   | _ => .fail
 | some .string => match x with
   | .v x => plainK F lo fun lo => plainK F hi fun hi => plainK F mx fun mx => pureK P (Instr.slice t x lo hi mx) k
   | _ => .fail
 | _ => .fail

def contentK (esz : Nat) (m : MV) (k : Nat → List MV → Prg) : Prg :=
 match m with
 | .v (.slice none 0 0) => k 0 []
 | .emp => k 0 []
 | .v (.string s) => match Nat.beq esz 1 with
  | true => forceN s.size fun n => strictK (s.data.toList.map fun b => .v (.int .u8 b.toNat)) fun l => k n l
  | false => .fail
 | .sl n off len _ => .get n fun r => match Nat.ble (off + len * esz) r.size with
  | true => forceN (len * esz) fun sz => readK r sz off fun l => k len l
  | false => .fail
 | _ => .fail
def appL : List MV → List MV → List MV
 | [], b => b
 | x :: a, b => x :: appL a b
def appendC (e : TypeId) (i : TypeInfo) (s x : MV) (k : MV → Prg) : Prg :=
 match i.zero.map (fun z => Nat.beq z.cells.size i.size), Nat.ble 1 i.size with
 | some true, true => contentK i.size x fun n new => match s with
  | .v (.slice none 0 0) => match n with
   | 0 => k s
   | n + 1 => match Nat.ble far ((n + 1) * (i.bytes + i.size)) with
    | false => forceN ((n + 1) * i.size) fun sz => forceN (n + 1) fun n => newRow e i.size sz true new [] fun a => k (.sl a 0 n (.open 0))
    | true => .fail
  | .sl m off len (.exact c) => .get m fun r => match Nat.ble (len + n) c, Nat.ble (off + len * i.size) r.size with
   | true, true => forceN (off + len * i.size) fun at' => forceN (len + n) fun nd => storeCellsK m at' r new (k (.sl m off nd (.exact c)))
   | false, true => match Nat.ble far ((len + n) * (i.bytes + i.size)) with
    | false => forceN (len * i.size) fun osz => readK r osz off fun old => forceN ((len + n) * i.size) fun sz => forceN (len + n) fun nd => newRow e i.size sz true (appL old new) [] fun a => k (.sl a 0 nd (.open 0))
    | true => .fail
   | _, false => .fail
  | .sl m off len (.open d) => match n with
   | 0 => k s
   | n + 1 => .get m fun r => match Nat.ble (off + len * i.size) r.size && Nat.beq off (d * i.size) && r.opn && Nat.beq r.esz i.size && Nat.beq r.ty e, Nat.ble far ((len + (n + 1)) * (i.bytes + i.size)) with
    | true, false => forceN (len * i.size) fun osz => readK r osz off fun old => forceN ((len + (n + 1)) * i.size) fun sz => forceN (len + (n + 1)) fun nd => .kill m (newRow e i.size sz true (appL old new) [] fun a => k (.sl a 0 nd (.open 0)))
    | _, _ => .fail
  | _ => .fail
 | _, _ => .fail
def zeroFits (i : TypeInfo) : Bool := match i.zero with | some z => Nat.beq z.cells.size i.size | none => false
def cloneK (e : TypeId) (i : TypeInfo) (s x : MV) (k : MV → Prg) (els : Prg) : Prg :=
 match s, x with
 | .sl _ _ 0 (.exact 0), .sl m 0 (len + 1) _ => .get m fun r => match r with
  | ⟨_, esz, size, _, cs, zero⟩ => match Nat.beq ((len + 1) * i.size) size && Nat.beq esz i.size && Nat.ble 1 i.size && zeroFits i, Nat.ble far ((len + 1) * (i.bytes + i.size)) with
   | true, false => .new ⟨e, esz, size, true, cs, zero⟩ fun a => forceN (len + 1) fun n => k (.sl a 0 n (.open 0))
   | _, _ => els
 | _, _ => els
def appendK (t : TypeId) (xt : Option TypeId) (s x : MV) (k : MV → Prg) : Prg :=
 match elemInfo P t, xt.bind P.underlying with
 | some (e, i), some xd => match xd with
  | .slice _ => cloneK e i s x k (appendC e i s x k)
  | .string => appendC e i s x k
  | _ => .fail
 | _, _ => .fail
def copyK (t : TypeId) (d x : MV) (k : MV → Prg) : Prg :=
 match elemInfo P t with
 | some (_, i) => match d with
  | .v (.slice none 0 0) => contentK i.size x fun _ _ => k (.v (.int .i64 0))
  | .emp => contentK i.size x fun _ _ => k (.v (.int .i64 0))
  | .sl m off len _ => contentK i.size x fun n new => forceN (Nat.min n len) fun n => .get m fun r => storeCellsK m off r (new.take (n * i.size)) (k (.v (.int .i64 n)))
  | _ => .fail
 | none => .fail
def clearK (t : TypeId) (d : MV) (k : MV → Prg) : Prg :=
 match elemInfo P t with
 | some (_, i) => match d with
  | .v (.slice none 0 0) => k (.v (.tuple #[]))
  | .sl m off len _ => match i.zero with
   | some z => .get m fun r => storeCellsK m off r (zeroL (z.cells.toList.map .v) (len * z.cells.size)) (k (.v (.tuple #[])))
   | none => .fail
  | _ => .fail
 | none => .fail
def lenK (ts : Array TypeId) (ty : TypeId) (m : MV) (k : MV → Prg) : Prg :=
 match m with
 | .v x => pureK P (Builtin.len_ ts ty #[x]) k
 | .sl _ _ len _ => match (ts[0]?).bind P.underlying with
  | some (.slice _) => k (.v (.int .i64 len))
  | _ => .fail
 | .emp => match (ts[0]?).bind P.underlying with
  | some (.slice _) => k (.v (.int .i64 0))
  | _ => .fail
 | _ => .fail
def capBK (ts : Array TypeId) (ty : TypeId) (m : MV) (k : MV → Prg) : Prg :=
 match m with
 | .v x => pureK P (Builtin.cap_ ts ty #[x]) k
 | .sl _ _ _ (.exact c) => match (ts[0]?).bind P.underlying with
  | some (.slice _) => k (.v (.int .i64 c))
  | _ => .fail
 | _ => .fail
def plains : List MV → Option (List Value)
 | [] => some []
 | .v x :: ms => match plains ms with
  | some xs => some (x :: xs)
  | none => none
 | _ :: _ => none
def eqlK (op : BinOp) (k : MV → Prg) : Prg :=
 match op with
 | .eql => k (.v (.bool false))
 | .neq => k (.v (.bool true))
 | _ => .fail
def binK (op : BinOp) (t : TypeId) (x y : Operand) (a b : MV) (k : MV → Prg) : Prg :=
 match a, b with
 | .v a, .v b => pureK P (do eqGuard op t x y a b; binOp op t a b) k
 | .sl .., .v (.slice none _ _) | .v (.slice none _ _), .sl .. | .emp, .v (.slice none _ _) | .v (.slice none _ _), .emp => match P.underlying t with
  | some (.slice _) => eqlK op k
  | _ => .fail
 | .ptr .., .v (.pointer none) | .v (.pointer none), .ptr .. => match P.underlying t with
  | some (.pointer _) => eqlK op k
  | _ => .fail
 | _, _ => .fail
def builtinK (b : Builtin) (ts : Array TypeId) (ty : TypeId) (args : List MV) (k : MV → Prg) : Prg :=
 match b with
 | .len => match args with
  | [m] => lenK P ts ty m k
  | _ => .fail
 | .cap => match args with
  | [m] => capBK P ts ty m k
  | _ => .fail
 | .append => match args, ts[0]? with
  | [s, x], some t => appendK P t ts[1]? s x k
  | _, _ => .fail
 | .copy => match args, ts[0]? with
  | [s, x], some t => copyK P t s x k
  | _, _ => .fail
 | .clear => match args, ts[0]? with
  | [s], some t => clearK P t s k
  | _, _ => .fail
 | .max => match plains args with
  | some xs => pureK P (Builtin.max_ ts ty xs.toArray) k
  | none => .fail
 | .min => match plains args with
  | some xs => pureK P (Builtin.min_ ts ty xs.toArray) k
  | none => .fail
 | _ => .fail
def indexAddrK (t : TypeId) (m : MV) (ix : MV) (k : MV → Prg) : Prg :=
 match m with
 | .sl n off len _ => match elemInfo P t with
  | some (_, i) => idxK ix len fun j => forceN (off + j * i.size) fun o => k (.ptr n o)
  | none => .fail
 | .ptr n off => match P.underlying t with
  | some (.array len e) => match P.info? e with
   | some i => idxK ix len fun j => forceN (off + j * i.size) fun o => k (.ptr n o)
   | none => .fail
  | _ => .fail
 | _ => .fail
def fieldAddrK (t : TypeId) (m : MV) (f : Nat) (k : MV → Prg) : Prg :=
 match m with
 | .ptr n off => match P.underlying t with
  | some (.struct fs) => match fs[f]? with
   | some fd => match P.info? fd.type with
    | some i => match Nat.ble 1 i.size with
     | true => forceN (off + fd.offset) fun o => k (.ptr n o)
     | false => .fail
    | none => .fail
   | none => .fail
  | _ => .fail
 | _ => .fail
def partK (t : TypeId) (cs : List MV) (off : Nat) (k : MV → Prg) : Prg :=
 match isAggB P t with
 | some true => match P.info? t with
  | some i => strictK ((cs.drop off).take i.size) fun l => k (.agg l)
  | none => .fail
 | some false => match cs[off]? with
  | some (.v x) => k (.v x)
  | some (.ptr n o) => k (.ptr n o)
  | some (.sl n o l c) => k (.sl n o l c)
  | some .emp => k .emp
  | some (.mref n) => k (.mref n)
  | some (.clo f c) => k (.clo f c)
  | _ => .fail
 | none => .fail
def MV.agg? : MV → Option (List MV)
 | .agg cs => some cs
 | .v (.agg cs) => some (cs.toList.map .v)
 | _ => none
def fieldK (t : TypeId) (m : MV) (f : Nat) (k : MV → Prg) : Prg :=
 match P.underlying t with
 | some (.struct fs) => match fs[f]?, m.agg? with
  | some fd, some cs => partK P fd.type cs fd.offset k
  | _, _ => .fail
 | _ => .fail
def indexK (t : TypeId) (m ix : MV) (k : MV → Prg) : Prg :=
 match P.underlying t with
 | some .string => match m, ix with
  | .v x, .v y => pureK P (Instr.index t x y) k
  | _, _ => .fail
 | some (.array len e) => match P.info? e, m.agg? with
  | some i, some cs => idxK ix len fun j => partK P e cs (j * i.size) k
  | _, _ => .fail
 | _ => .fail
def whnfK (m : MV) (k : MV → Prg) : Prg :=
 match m with
 | .v x => k (.v x)
 | .ptr n o => k (.ptr n o)
 | .sl n o l c => k (.sl n o l c)
 | .emp => k .emp
 | .yld n => k (.yld n)
 | .mref n => k (.mref n)
 | .clo f c => k (.clo f c)
 | .agg c => k (.agg c)
 | .tup c => k (.tup c)
def extractK (m : MV) (i : Nat) (k : MV → Prg) : Prg :=
 match m with
 | .tup vs => match vs[i]? with
  | some m => whnfK m k
  | none => .fail
 | .v x => pureK P (Instr.extract x i) k
 | _ => .fail
/-! ### Maps of numbers -/
def findI (a : Int) : List (Int × Value) → Option Value
 | [] => none
 | (b, v) :: es => match a == b with
  | true => some v
  | false => findI a es
def putI (a : Int) (v : Value) : List (Int × Value) → List (Int × Value)
 | [] => [(a, v)]
 | (b, u) :: es => match a == b with
  | true => (a, v) :: es
  | false => (b, u) :: putI a v es
def intMap (t : TypeId) : Option (IntKind × TypeId) :=
 match P.underlying t with
 | some (.map kt e) => match P.underlying kt with
  | some (.int k) => some (k, e)
  | _ => none
 | _ => none
def strictM {β : Type} : List (Int × Value) → (List (Int × Value) → β) → β
 | [], k => k []
 | (a, v) :: es, k => strictM es fun es => k ((a, v) :: es)
def mapUpdateK (t : TypeId) (m key v : MV) (k : MV → Prg) : Prg :=
 match intMap P t, m, key, v with
 | some (k0, _), .mref n, .v (.int kk a), .v y => .getC n fun c => match c with
  | .mp kk' es => match decide (kk = kk') && decide (k0 = kk) with
   | true => strictM (putI a y es) fun es => .setC n (.mp kk es) (k MV.undef)
   | false => .fail
  | _ => .fail
 | _, _, _, _ => .fail
def lookupK (t : TypeId) (m key : MV) (ok : Bool) (k : MV → Prg) : Prg :=
 match intMap P t, m, key with
 | some (k0, e), .mref n, .v (.int kk a) => .getC n fun c => match c with
  | .mp kk' es => match decide (kk = kk') && decide (k0 = kk) with
   | true => match findI a es with
    | some y => match ok with
     | true => k (.tup [.v y, .v (.bool true)])
     | false => forceV y fun y => k (.v y)
    | none => match P.info? e with
     | some i => match i.zero with
      | some z => match ok with
       | true => k (.tup [.v z, .v (.bool false)])
       | false => k (.v z)
      | none => .fail
     | none => .fail
   | false => .fail
  | _ => .fail
 | _, _, _ => .fail
def pickK (F : Fr) (c a b : Operand) (k : MV → Prg) : Prg :=
 F.evK c fun m => match m with
  | .v (.bool true) => F.evK a k
  | .v (.bool false) => F.evK b k
  | _ => .fail
def allocK (t : TypeId) (k : MV → Prg) : Prg :=
 match P.info? t with
 | some i => match i.zero with
  | some z => strictK ((MV.v z).cells) fun l => boxK t l k
  | none => .fail
 | none => .fail
def boxOpK (F : Fr) (t : TypeId) (x : Operand) (k : MV → Prg) : Prg := F.evK x fun m => strictK m.cells fun l => boxK t l k
def buildOpK (F : Fr) (t : TypeId) (parts : Array (Nat × Operand)) (k : MV → Prg) : Prg :=
 match buildM P t (evps F parts.toList) with
 | some cs => strictK cs fun cs => k (.agg cs)
 | none => .fail
def loadOpK (F : Fr) (t : TypeId) (x : Operand) (k : MV → Prg) : Prg := F.evK x fun m => loadK P t m k
def storeOpK (F : Fr) (t : TypeId) (x y : Operand) (k : MV → Prg) : Prg := F.evK x fun m => F.evK y fun v => storeK P t m v k
def nilOpK (F : Fr) (x : Operand) (k : MV → Prg) : Prg :=
 F.evK x fun m => match m with
  | .ptr n o => k (.ptr n o)
  | .clo (.func f) c => k (.clo (.func f) c)
  | .v (.func (.func f) a c) => k (.v (.func (.func f) a c))
  | _ => .fail
def binOpK (F : Fr) (op : BinOp) (t : TypeId) (x y : Operand) (k : MV → Prg) : Prg := F.evK x fun a => F.evK y fun b => binK P op t x y a b k
def unOpK (F : Fr) (op : UnOp) (x : Operand) (k : MV → Prg) : Prg :=
 F.evK x fun m => match m with
  | .v a => pureK P (Op.unary op a) k
  | _ => .fail
def convOpK (F : Fr) (s d : TypeId) (x : Operand) (k : MV → Prg) : Prg :=
 F.evK x fun m => match m with
  | .v a => pureK P (convert s d a) k
  | _ => .fail
def funOpK (F : Fr) (fn : Fn) (first caps : Array Operand) (k : MV → Prg) : Prg :=
 match first.toList with
 | [] => evsK F caps.toList fun cs => k (.clo fn cs)
 | _ => .fail
def makeOpK (F : Fr) (t : TypeId) (l c : Operand) (k : MV → Prg) : Prg := F.evK l fun l => F.evK c fun c => makeSliceK P t l c k
def indexAddrOpK (F : Fr) (t : TypeId) (x ix : Operand) (k : MV → Prg) : Prg := F.evK x fun m => F.evK ix fun j => indexAddrK P t m j k
def indexOpK (F : Fr) (t : TypeId) (x ix : Operand) (k : MV → Prg) : Prg := F.evK x fun m => F.evK ix fun j => indexK P t m j k
def callOpK (call : MV → List MV → (MV → Prg) → Prg) (F : Fr) (c : Call) (ty : TypeId) (k : MV → Prg) : Prg :=
 match c.callee with
 | .builtin b => evsK F c.args.toList fun args => builtinK P b c.argTypes ty args k
 | .value f => F.evK f fun m => evsK F c.args.toList fun args => call m args k
 | _ => .fail
def makeMapOpK (t : TypeId) (r : Option Operand) (k : MV → Prg) : Prg :=
 match r with
 | none => match P.underlying t with
  | some (.map kt _) => match P.underlying kt with
   | some (.int kk) => .newC (.mp kk []) fun n => k (.mref n)
   | _ => .fail
  | _ => .fail
 | some _ => .fail
def mapOpK (F : Fr) (t : TypeId) (m x y : Operand) (k : MV → Prg) : Prg := F.evK m fun m => F.evK x fun x => F.evK y fun y => mapUpdateK P t m x y k
def lookOpK (F : Fr) (t : TypeId) (m x : Operand) (ok : Bool) (k : MV → Prg) : Prg := F.evK m fun m => F.evK x fun x => lookupK P t m x ok k
def opK (call : MV → List MV → (MV → Prg) → Prg) (F : Fr) (o : Oper) (k : MV → Prg) : Prg :=
 match o.op with
 | .move x => F.evK x k
 | .assign x => F.evK x k
 | .pick c a b => pickK F c a b k
 | .alloc t => allocK P t k
 | .box t x => boxOpK F t x k
 | .build t parts => buildOpK P F t parts k
 | .buildSlice t len parts => buildSliceK P t len (evps F parts.toList) k
 | .load t x => loadOpK P F t x k
 | .store t x y => storeOpK P F t x y k
 | .nilCheck x => nilOpK F x k
 | .binOp op t x y _ => binOpK P F op t x y k
 | .unOp op _ x => unOpK P F op x k
 | .convert s d x => convOpK P F s d x k
 | .makeFunc fn first caps => funOpK F fn first caps k
 | .makeSlice t l c => makeOpK P F t l c k
 | .slice t x lo hi mx => F.evK x fun m => sliceK P F t m lo hi mx k
 | .fieldAddr t x f => F.evK x fun m => fieldAddrK P t m f k
 | .field t x f => F.evK x fun m => fieldK P t m f k
 | .indexAddr t x ix => indexAddrOpK P F t x ix k
 | .index t x ix => indexOpK P F t x ix k
 | .extract x i => F.evK x fun m => extractK P m i k
 | .call c => callOpK P call F c o.type k
 | .makeMap t r => makeMapOpK P t r k
 | .mapUpdate t m x y => mapOpK P F t m x y k
 | .insert t m x y => mapOpK P F t m x y k
 | .lookup t m x ok => lookOpK P F t m x ok k
 | _ => .fail

/-! ### Regions -/
def wantedM (ops : Array Oper) (F : Fr) (o : Oper) : Bool :=
 match o.guard with
 | none => true
 | some (j, want) => match (ops[j]?).bind (·.dst) with
  | none => false
  | some d => match F.t.get d with
   | some (.v (.bool true)) => want
   | some (.v (.bool false)) => !want
   | _ => false
def regK (call : MV → List MV → (MV → Prg) → Prg) (ops : Array Oper) : List Oper → Fr → (Fr → Prg) → Prg
 | [], F, k => k F
 | o :: rest, F, k => match wantedM ops F o with
  | true => opK P call F o fun v => F.putK o.dst v fun F => regK call ops rest F k
  | false => F.putK o.dst MV.undef fun F => regK call ops rest F k
def regDK (call : MV → List MV → (MV → Prg) → Prg) (ops : Array Oper) : List Oper → Nat → Fr → List (Nat × Log) → (Fr → List (Nat × Log) → Prg) → Prg
 | [], _, F, acc, k => k F acc
 | o :: rest, j, F, acc, k => match wantedM ops F o with
  | true => .sub (opK P call F o .ret) fun v log => F.putK o.dst v fun F => match log with
   | [] => regDK call ops rest (Nat.succ j) F acc k
   | e :: log => regDK call ops rest (Nat.succ j) F ((j, e :: log) :: acc) k
  | false => F.putK o.dst MV.undef fun F => regDK call ops rest (Nat.succ j) F acc k
def maskOf (o : Oper) (acc : List Nat) : Nat :=
 o.after.toList.foldr (fun e s => if Region.binds .any e then s ||| 2 ^ e.on ||| acc.getD e.on 0 else s) 0
def maskGo : List Oper → List Nat → List Nat
 | [], acc => acc
 | o :: rest, acc => maskGo rest (acc ++ [maskOf o acc])
def Log.writes : Log → List Nat
 | [] => []
 | (_, .rd) :: l => Log.writes l
 | (n, .wr _) :: l => n :: Log.writes l
def memN (n : Nat) : Log → Bool
 | [] => false
 | (m, _) :: l => match Nat.beq n m with
  | true => true
  | false => memN n l
def noneIn (l : Log) : List Nat → Bool
 | [] => true
 | n :: ns => match memN n l with
  | true => false
  | false => noneIn l ns
def logsApart (a b : Log) : Bool := noneIn b (Log.writes a) && noneIn a (Log.writes b)
def bitAt (m i : Nat) : Bool := Nat.beq (m / 2 ^ i % 2) 1
def logsOk1 (M : List Nat) (j : Nat) (L : Log) : List (Nat × Log) → Bool
 | [] => true
 | (i, K) :: rest => (bitAt (M.getD j 0) i || logsApart K L) && logsOk1 M j L rest
def logsOk (M : List Nat) : List (Nat × Log) → Bool
 | [] => true
 | (j, L) :: rest => logsOk1 M j L rest && logsOk M rest
def staticOk1 (ops : Array Oper) (M : List Nat) (j : Nat) (oj : Oper) : List Oper → Nat → Bool
 | [], _ => true
 | o :: rest, i => (bitAt (M.getD j 0) i || o.apart ops oj) && staticOk1 ops M j oj rest (i + 1)
def edgesIn (o : Oper) (j : Nat) : Bool := o.after.toList.all fun e => !Region.binds .any e || Nat.blt e.on j
def staticGo (ops : Array Oper) (M : List Nat) : List Oper → List Oper → Nat → Bool
 | _, [], _ => true
 | pre, o :: rest, j => edgesIn o j && staticOk1 ops M j o pre 0 && staticGo ops M (pre ++ [o]) rest (j + 1)
def staticOk (ops : Array Oper) : Bool := staticGo ops (maskGo ops.toList []) [] ops.toList 0

/-! ### Code -/
inductive Ex where
 | normal
 | exit (i : Nat)
 | ret
def resK (F : Fr) : List ResultVar → (List MV → Prg) → Prg
 | [], k => k []
 | .tmp t :: rs, k => F.evK (.tmp t) fun m => resK F rs fun ms => k (m :: ms)
 | .cell d t :: rs, k => F.evK (.tmp d) fun m => loadK P t m fun v => resK F rs fun ms => k (v :: ms)
def shutK : List Nat → Prg → Prg
 | [], k => k
 | n :: ns, k => .getC n fun c => match c with
  | .dfr => .setC n .dead (shutK ns k)
  | _ => .fail
def putsK (F : Fr) : List Tmp → List MV → (Fr → Prg) → Prg
 | [], [], k => k F
 | p :: ps, m :: ms, k => F.putK (some p) m fun F => putsK F ps ms k
 | _, _, _ => .fail
def funK (X : FuncId → Option (List MV → (MV → Prg) → Prg)) (body : Option Nat → Code → Fr → (Ex → Fr → Prg) → Prg) (f : FuncId) (args : List MV) (k : MV → Prg) : Prg :=
 match X f with
 | some g => g args k
 | none => match P.funcs[f]? with
  | none => .fail
  | some fn => match fn.body with
   | none => .fail
   | some c => forceN fn.ntmps fun n => match Nat.ble args.length n, Nat.ble far n with
    | true, false => fillK .nil 0 args fun t => body none c ⟨n, t, []⟩ fun e F => match e with
     | .exit _ => .fail
     | _ => shutK F.marks (resK P F fn.results.toList fun ms => match ms with
      | [m] => k m
      | [] => k (.v (.tuple #[]))
      | m :: n :: ms => k (.tup (m :: n :: ms)))
    | _, _ => .fail
def yieldK (body : Option Nat → Code → Fr → (Ex → Fr → Prg) → Prg) (n : Nat) (args : List MV) (k : MV → Prg) : Prg :=
 .getC n fun c => match c with
 | .lp q => match q.st with
  | .ready => putsK ⟨q.fr.n, q.fr.t, []⟩ q.ps args fun F => body (some n) q.asg F fun e F => match e with
   | .normal => .getC n fun c => match c with
    | .lp p => match p.st with
     | .ready => .setC n (.lp ⟨.busy, p.fr, p.ps, p.asg, p.bd, p.pend, p.dfr⟩) (body (some n) q.bd F fun e _ => .getC n fun c => match c with
      | .lp o => match e with
       | .normal => .setC n (.lp ⟨.ready, o.fr, o.ps, o.asg, o.bd, none, o.dfr⟩) (k (.v (.bool true)))
       | .exit i => .setC n (.lp ⟨.done, o.fr, o.ps, o.asg, o.bd, some (.exit i), o.dfr⟩) (k (.v (.bool false)))
       | .ret => .setC n (.lp ⟨.done, o.fr, o.ps, o.asg, o.bd, some .ret, o.dfr⟩) (k (.v (.bool false)))
      | _ => .fail)
     | _ => .fail
    | _ => .fail
   | _ => .fail
  | _ => .fail
 | _ => .fail
def callK (X : FuncId → Option (List MV → (MV → Prg) → Prg)) (body : Option Nat → Code → Fr → (Ex → Fr → Prg) → Prg) (m : MV) (args : List MV) (k : MV → Prg) : Prg :=
 match m with
 | .v (.func (.func g) first caps) => match first.toList with
  | [] => funK P X body g (appL args (caps.toList.map .v)) k
  | _ => .fail
 | .clo (.func g) caps => funK P X body g (appL args caps) k
 | .yld n => yieldK body n args k
 | _ => .fail
def overK (ln : Nat) (F' : Fr) (k : Ex → Fr → Prg) : Prg :=
 .getC ln fun c => match c with
 | .lp q => match q.st with
  | .busy => .fail
  | _ => .setC ln .dead (match q.pend with
   | none => k .normal F'
   | some .ret => k .ret F'
   | some (.exit i) => k (.exit i) F')
 | _ => .fail
def rangeK (fcall : FuncId → List MV → (MV → Prg) → Prg) (m : MV) (ps : List Tmp) (asg bd : Code) (dn : Nat) (F F' : Fr) (k : Ex → Fr → Prg) : Prg :=
 .newC (.lp ⟨.ready, ⟨F.n, F.t, []⟩, ps, asg, bd, none, dn⟩) fun ln => match m with
  | .v (.func (.func g) first caps) => match first.toList with
   | [] => fcall g (.yld ln :: caps.toList.map .v) fun _ => overK ln F' k
   | _ => .fail
  | .clo (.func g) caps => fcall g (.yld ln :: caps) fun _ => overK ln F' k
  | _ => .fail
def regionK (call : MV → List MV → (MV → Prg) → Prg) (ops : Array Oper) (d : Bool) (F : Fr) (k : Ex → Fr → Prg) : Prg :=
 match d with
 | false => regK P call ops ops.toList F fun F => k .normal F
 | true => match staticOk ops with
  | true => regDK P call ops ops.toList 0 F [] fun F acc => match logsOk (maskGo ops.toList []) acc with
   | true => k .normal F
   | false => .fail
  | false => .fail
def thenK (k : Ex → Fr → Prg) (k' : Fr → Prg) (e : Ex) (F : Fr) : Prg :=
 match e with
 | .normal => k' F
 | .exit i => k (.exit i) F
 | .ret => k .ret F
def condK (F : Fr) (x : Operand) (a b : Prg) : Prg :=
 F.evK x fun m => match m with
  | .v (.bool true) => a
  | .v (.bool false) => b
  | _ => .fail
def endBlockK (id : Nat) (k : Ex → Fr → Prg) (e : Ex) (F : Fr) : Prg :=
 match e with
 | .exit i => match Nat.beq i id with
  | true => k .normal F
  | false => k (.exit i) F
 | .normal => k .normal F
 | .ret => k .ret F
def rangeOpK (fcall : FuncId → List MV → (MV → Prg) → Prg) (rd : Option Nat) (g : Operand) (ps : Array Tmp) (asg bd : Code) (F : Fr) (k : Ex → Fr → Prg) : Prg :=
 F.evK g fun m => match rd with
  | none => .newC .dfr fun dn => rangeK fcall m ps.toList asg bd dn F ⟨F.n, F.t, dn :: F.marks⟩ k
  | some l => .getC l fun c => match c with
   | .lp q => rangeK fcall m ps.toList asg bd q.dfr F F k
   | _ => .fail
def codeK (X : FuncId → Option (List MV → (MV → Prg) → Prg)) : Nat → Option Nat → Code → Fr → (Ex → Fr → Prg) → Prg
 | 0, _, _, _, _ => .fail
 | fuel + 1, rd, c, F, k =>
  match c with
  | .skip => k .normal F
  | .label _ => k .normal F
  | .region _ ops d => regionK P (callK P X (codeK X fuel)) ops d F k
  | .seq a b => codeK X fuel rd a F (thenK k fun F => codeK X fuel rd b F k)
  | .cond x a b => condK F x (codeK X fuel rd a F k) (codeK X fuel rd b F k)
  | .block id b => codeK X fuel rd b F (endBlockK id k)
  | .loop b => codeK X fuel rd b F (thenK k fun F => codeK X fuel rd (.loop b) F k)
  | .scope b => codeK X fuel rd b F k
  | .exit i => k (.exit i) F
  | .ret => k .ret F
  | .rangeFunc g ps asg bd => rangeOpK (funK P X (codeK X fuel)) rd g ps asg bd F k
  | _ => .fail
end
end Go.Proofs.YtbbbflnnbbaamaaGreatDoor.Mini
