/- Packed of several texts. -/
import Derived.WalkKit
import Derived.Test.YtpdbokbmchlgpaaGreatK00
import Derived.RangeFuncBox
import Derived.RangeFuncNested
import Derived.RangeFuncBound
import Derived.RangeFuncCalls
import Derived.RangeFuncLeaves
import Derived.Shelf.Abstract
import Derived.Shelf.RegionOpen
import Derived.OwnWalkIn
import Derived.TacticsInMore
import Derived.LoopNIn
import Derived.LoopIn
import Derived.Maps.AppendAt
namespace Go.Proofs.YtpdbokbmchlgpaaGreat.PK

/-- An instruction of middle code. -/
structure Ins where
  op : Int
  wd : Int
  fl : Int
  ar : List Int
  im : Nat
  tt : List Int
/-- A function of middle code. -/
structure Fun where
  ps : List Int
  ret : Int
  sl : List Int
  bs : List (List Ins)
def noIns : Ins := ⟨0, 0, 0, [], 0, []⟩
instance : Inhabited Ins := ⟨noIns⟩
def atI (l : List Ins) (k : Nat) : Ins := l.getD k noIns
theorem atI_get {l : List Ins} {k : Nat} (h : k < l.length) : atI l k = l[k] := by
  unfold atI
  rw [List.getD_eq_getElem?_getD, List.getElem?_eq_getElem h]; rfl
def atBk (ls : List (List Ins)) (k : Nat) : List Ins := ls.getD k []
theorem atBk_get {ls : List (List Ins)} {k : Nat} (h : k < ls.length) : atBk ls k = ls[k] := by
  unfold atBk
  rw [List.getD_eq_getElem?_getD, List.getElem?_eq_getElem h]; rfl
def isNum (k : Int) : Bool := decide (1 ≤ k ∧ k ≤ 32)
def isMm (k : Int) : Bool := decide (k = 8 ∨ k = 16 ∨ k = 32)
def isLst (op : Int) : Bool := decide (29 ≤ op ∧ op ≤ 32)
/-- What operations have in common. -/
def clsI (op : Int) : Int :=
  if op = 0 then 1 else if op = 14 then 3 else if op = 15 then 4 else if op = 16 ∨ op = 17 then 5 else if op = 18 then 6
  else if op = 19 ∨ op = 20 then 7 else if op = 21 then 8 else if op = 22 ∨ op = 23 then 9 else if op = 24 then 10 else if op = 25 then 11
  else if op = 26 then 12 else if op = 27 then 13 else if op = 28 then 14 else if op = 29 then 15 else if op = 30 then 16 else if op = 31 then 17
  else if op = 32 then 18 else if 1 ≤ op ∧ op ≤ 13 then 2 else 0
/-- The flags that an operation may have. -/
def flgI (op : Int) : Int :=
  if op = 1 ∨ op = 2 ∨ op = 3 ∨ op = 11 then 3 else if op = 4 ∨ op = 6 ∨ op = 12 ∨ op = 13 then 4 else if op = 25 then 8 else 0
/-- Its flags are right. -/
def flOk (op fl : Int) : Bool :=
  if flgI op = 3 then decide (0 ≤ fl ∧ fl ≤ 3) else if flgI op = 4 then decide (fl = 0 ∨ fl = 4) else if flgI op = 8 then decide (fl = 0 ∨ fl = 8) else decide (fl = 0)
/-- Its width and its number are right. -/
def formI (nsl : Nat) (x : Ins) : Bool :=
  let c := clsI x.op
  if c = 1 then isNum x.wd && decide (x.im < 2 ^ x.wd.toNat)
  else if c = 2 ∨ c = 5 ∨ c = 6 ∨ c = 8 ∨ c = 9 then isNum x.wd && decide (x.im = 0)
  else if c = 3 then decide (x.wd = 1) && decide (x.im ≤ 9)
  else if c = 4 then (isNum x.wd || decide (x.wd = 33)) && decide (x.im = 0)
  else if c = 7 then isNum x.wd && decide (1 ≤ x.im) && decide ((x.im : Int) < x.wd) && decide (x.wd.toNat % x.im = 0)
  else if c = 10 then decide (x.wd = 33) && decide (x.im < nsl)
  else if c = 11 then decide (x.wd = 33) && decide (x.im = 0)
  else if c = 12 then isMm x.wd && decide (x.im = 0)
  else if c = 13 ∨ 15 ≤ c then decide (x.wd = 0) && decide (x.im = 0)
  else if c = 14 then (isNum x.wd || decide (x.wd = 33)) && decide (x.im = 0) && decide (0 < x.tt.length)
  else false
/-- How many Args it must have. -/
def argsI (ret : Int) (x : Ins) : Int :=
  let c := clsI x.op
  if c = 2 ∨ c = 3 ∨ c = 7 ∨ c = 11 ∨ c = 13 then 2 else if c = 4 then 3 else if c = 5 ∨ c = 6 ∨ c = 8 ∨ c = 12 ∨ c = 16 then 1
  else if c = 14 then x.tt.length else if c = 17 then min ret 1 else 0
/-- How many blocks it must have. -/
def tosI (x : Ins) : Int :=
  let c := clsI x.op
  if c = 14 then x.tt.length else if c = 15 then 1 else if c = 16 then 2 else 0
/-- An instruction is as it must be, but for the kinds of its Args. -/
def shapeB (F : Fun) (x : Ins) : Bool :=
  decide (clsI x.op ≠ 0) && (formI F.sl.length x && (flOk x.op x.fl && (decide ((x.ar.length : Int) = argsI F.ret x) && (decide ((x.tt.length : Int) = tosI x) &&
    (!(decide (x.op = 30) && decide (x.tt.getD 0 0 = x.tt.getD 1 0)) && x.tt.all fun b => decide (0 ≤ b ∧ b < F.bs.length))))))
theorem clsI_lo (op : Int) : 0 ≤ clsI op ∧ clsI op ≤ 18 := by
  unfold clsI
  repeat' split
  all_goals omega
end Go.Proofs.YtpdbokbmchlgpaaGreat.PK
namespace Go.Proofs.YtpdbokbmchlgpaaGreat.PK
open Go.RowKit

/-- The six cells of an instruction, and its lists. -/
structure InsAt (w : World) (b off : Nat) (x : Ins) (aa at' : Option Addr) (ca ct : Nat) : Prop where
  c0 : w.cell? ⟨b, off, none⟩ = some (.int .i64 x.op)
  c1 : w.cell? ⟨b, off + 1, none⟩ = some (.int .i64 x.wd)
  c2 : w.cell? ⟨b, off + 2, none⟩ = some (.int .i64 x.fl)
  c3 : w.cell? ⟨b, off + 3, none⟩ = some (.slice aa x.ar.length ca)
  c4 : w.cell? ⟨b, off + 4, none⟩ = some (.int .u32 x.im)
  c5 : w.cell? ⟨b, off + 5, none⟩ = some (.slice at' x.tt.length ct)
  ia : IntsIn w aa x.ar
  it : IntsIn w at' x.tt
theorem InsAt.below {w w' : World} {b off : Nat} {x : Ins} {aa at' : Option Addr} {ca ct : Nat} (h : InsAt w b off x aa at' ca ct) (hb : Below w.heap.size w w') : InsAt w' b off x aa at' ca ct :=
  ⟨keep h.c0 hb, keep h.c1 hb, keep h.c2 hb, keep h.c3 hb, keep h.c4 hb, keep h.c5 hb, h.ia.below hb, h.it.below hb⟩
/-- The value of an instruction. -/
abbrev insV (x : Ins) (aa at' : Option Addr) (ca ct : Nat) : Value := .agg #[.int .i64 x.op, .int .i64 x.wd, .int .i64 x.fl, .slice aa x.ar.length ca, .int .u32 x.im, .slice at' x.tt.length ct]
theorem insAt_new (w : World) (x : Ins) (aa at' : Option Addr) (ca ct : Nat) (t : TypeId) (ha : IntsIn w aa x.ar) (ht : IntsIn w at' x.tt) : InsAt (w.alloc (.cells #[.int .i64 x.op, .int .i64 x.wd, .int .i64 x.fl, .slice aa x.ar.length ca, .int .u32 x.im, .slice at' x.tt.length ct] t)) w.heap.size 0 x aa at' ca ct := by
  have hal : Below w.heap.size w (w.alloc (.cells #[.int .i64 x.op, .int .i64 x.wd, .int .i64 x.fl, .slice aa x.ar.length ca, .int .u32 x.im, .slice at' x.tt.length ct] t)) := (Below.refl _ _).alloc (Nat.le_refl _) _
  exact ⟨by simp [go_sem], by simp [go_sem], by simp [go_sem], by simp [go_sem], by simp [go_sem], by simp [go_sem], ha.below hal, ht.below hal⟩
/-- The cells of a slice are these instructions. -/
def InsIn (w : World) (a : Option Addr) (l : List Ins) : Prop :=
  ∀ k, k < l.length → ∃ b off aa at' ca ct, a = some ⟨b, off, none⟩ ∧ InsAt w b (off + k * 6) (atI l k) aa at' ca ct
theorem InsIn.below {w w' : World} {a : Option Addr} {l : List Ins} (h : InsIn w a l) (hb : Below w.heap.size w w') : InsIn w' a l := fun k hk => by
  obtain ⟨b, off, aa, at', ca, ct, rfl, hc⟩ := h k hk
  exact ⟨b, off, aa, at', ca, ct, rfl, hc.below hb⟩
/-- The cells of a slice are these blocks. -/
def FBIn (w : World) (bl : Option Addr) (ls : List (List Ins)) : Prop :=
  ∀ k, k < ls.length → ∃ b off a cap, bl = some ⟨b, off, none⟩ ∧ w.cell? ⟨b, off + k, none⟩ = some (.slice a (atBk ls k).length cap) ∧ InsIn w a (atBk ls k)
theorem FBIn.below {w w' : World} {bl : Option Addr} {ls : List (List Ins)} (h : FBIn w bl ls) (hb : Below w.heap.size w w') : FBIn w' bl ls := fun k hk => by
  obtain ⟨b, off, a, cap, rfl, hc, hi⟩ := h k hk
  exact ⟨b, off, a, cap, rfl, keep hc hb, hi.below hb⟩
/-- Where the lists of a function lie. -/
structure FunA where
  pa : Option Addr
  pc : Nat
  sa : Option Addr
  sc : Nat
  ba : Option Addr
  bc : Nat
abbrev funC (F : Fun) (A : FunA) : Array Value := #[.slice A.pa F.ps.length A.pc, .int .i64 F.ret, .slice A.sa F.sl.length A.sc, .slice A.ba F.bs.length A.bc]
abbrev funV (F : Fun) (A : FunA) : Value := .agg (funC F A)
structure FunIn (w : World) (F : Fun) (A : FunA) : Prop where
  ps : IntsIn w A.pa F.ps
  sl : IntsIn w A.sa F.sl
  bs : FBIn w A.ba F.bs
theorem FunIn.below {w w' : World} {F : Fun} {A : FunA} (h : FunIn w F A) (hb : Below w.heap.size w w') : FunIn w' F A := ⟨h.ps.below hb, h.sl.below hb, h.bs.below hb⟩
/-- The lists are not longer than the laws let in. -/
structure FunSm (F : Fun) : Prop where
  ps : F.ps.length ≤ 20
  sl : F.sl.length ≤ 20
  bs : F.bs.length ≤ 40
  ins : ∀ k, k < F.bs.length → (atBk F.bs k).length ≤ 100
  ars : ∀ k i, k < F.bs.length → i < (atBk F.bs k).length → (atI (atBk F.bs k) i).ar.length ≤ 40 ∧ (atI (atBk F.bs k) i).tt.length ≤ 40
end Go.Proofs.YtpdbokbmchlgpaaGreat.PK
namespace Go.Proofs.YtpdbokbmchlgpaaGreat.PK
open Go.RowKit Go.Shelf

variable {F : Fence} {n : Nat} {P : Program}
/-- Only what is no cells and lies at or beyond B is turned; new blocks come. -/
structure Turn (B : Nat) (A A' : World) : Prop where
  os : A'.os = A.os
  tape : A'.tape = A.tape
  output : A'.output = A.output
  size : A.heap.size ≤ A'.heap.size
  block : ∀ (b : Nat) (o : Obj), A.heap[b]? = some o → b < B ∨ o.isCells = true → A'.heap[b]? = A.heap[b]?
theorem Turn.refl (B : Nat) (A : World) : Turn B A A := ⟨rfl, rfl, rfl, Nat.le_refl _, fun _ _ _ _ => rfl⟩
theorem Turn.trans {B : Nat} {a b c : World} (h : Turn B a b) (k : Turn B b c) : Turn B a c :=
  ⟨k.os.trans h.os, k.tape.trans h.tape, k.output.trans h.output, Nat.le_trans h.size k.size, fun i o hi hq => (k.block i o ((h.block i o hi hq).trans hi) hq).trans (h.block i o hi hq)⟩
theorem Turn.of_below {B : Nat} {A A' : World} (h : Below A.heap.size A A') : Turn B A A' := ⟨h.os, h.tape, h.output, h.size, fun b _ hb _ => h.block b (lt_of_block hb)⟩
theorem Turn.put {B : Nat} {A : World} {l : Nat} {o : Obj} (o' : Obj) (hl : A.heap[l]? = some o) (ho : o.isCells = false) (hB : B ≤ l) : Turn B A (A.putObj l o') :=
  ⟨rfl, rfl, rfl, by rw [World.putObj_size]; exact Nat.le_refl _, fun b ob hb hq => World.putObj_heap_other (fun e => by
    subst e
    rw [hl] at hb; cases hb
    rcases hq with h | h
    · omega
    · rw [ho] at h; cases h)⟩
theorem Turn.heap {B : Nat} {A A' : World} (h : Turn B A A') {b : Nat} {cs : Array Value} {t : TypeId} {fz : Nat × Nat} (hb : A.heap[b]? = some (.cells cs t fz)) : A'.heap[b]? = some (.cells cs t fz) := (h.block b _ hb (.inr rfl)).trans hb
theorem Turn.cell {B : Nat} {A A' : World} (h : Turn B A A') {b k : Nat} {v : Value} (hc : A.cell? ⟨b, k, none⟩ = some v) : A'.cell? ⟨b, k, none⟩ = some v := by
  obtain ⟨o, ho⟩ : ∃ o, A.heap[b]? = some o := ⟨_, Array.getElem?_eq_getElem (block_lt_of_cell hc)⟩
  have hq : o.isCells = true := by
    unfold World.cell? at hc
    simp only [ho] at hc
    cases o <;> first | rfl | cases hc
  rw [World.cell?_of_block (w := A) (h.block b o ho (.inr hq))]; exact hc
theorem Turn.below {B q : Nat} {w A A' : World} (h : Turn B A A') (hb : Below q w A) (hq : q ≤ B) (hA : q ≤ A.heap.size) : Below q w A' := by
  refine hb.trans ⟨h.os, h.tape, h.output, h.size, fun k hk => ?_⟩
  obtain ⟨o, ho⟩ : ∃ o, A.heap[k]? = some o := ⟨_, Array.getElem?_eq_getElem (by omega)⟩
  exact h.block k o ho (.inl (by omega))
theorem Turn.owns {B : Nat} {A A' : World} (h : Turn B A A') {base : Nat} {e : TypeId} {s n : Nat} {v : Value} {xs : List Value} (ho : A.ownsRow base e s v n xs) : A'.ownsRow base e s v n xs := by
  refine ⟨ho.1, ?_⟩
  rcases ho.2 with h1 | ⟨g, cap, cur, e, hg, hc, r⟩
  · exact .inl h1
  · exact .inr ⟨g, cap, cur, e, hg, h.heap hc, r⟩
theorem Turn.ints {B : Nat} {A A' : World} (h : Turn B A A') {a : Option Addr} {xs : List Int} (hi : IntsIn A a xs) : IntsIn A' a xs := fun k hk => by
  obtain ⟨b, off, rfl, hc⟩ := hi k hk
  exact ⟨b, off, rfl, h.cell hc⟩
theorem Turn.boxed {B : Nat} {A A' : World} (h : Turn B A A') {q : Nat} {t : TypeId} {v : Value} (hb : Boxed A q t v) : Boxed A' q t v := h.heap hb
/-- What a round keeps: what lies below n₀, and one block more (the iterator's own). -/
structure Kp (n₀ Bs : Nat) (A A' : World) : Prop where
  low : Below n₀ A A'
  own : A'.heap[Bs]? = A.heap[Bs]?
theorem Kp.refl (n₀ Bs : Nat) (A : World) : Kp n₀ Bs A A := ⟨Below.refl _ _, rfl⟩
theorem Kp.trans {n₀ Bs : Nat} {a b c : World} (h : Kp n₀ Bs a b) (k : Kp n₀ Bs b c) : Kp n₀ Bs a c := ⟨h.low.trans k.low, k.own.trans h.own⟩
theorem Kp.of_below {n₀ Bs : Nat} {A A' : World} (h : Below A.heap.size A A') (h1 : n₀ ≤ A.heap.size) (h2 : Bs < A.heap.size) : Kp n₀ Bs A A' := ⟨h.mono h1, h.block _ h2⟩
theorem Kp.setCell {n₀ Bs q : Nat} (A : World) (h1 : n₀ ≤ q) (h2 : Bs ≠ q) (k : Nat) (v : Value) : Kp n₀ Bs A (A.setCell ⟨q, k, none⟩ v) := ⟨(Below.refl _ _).setCell h1 v, Below.heap_setCell _ _ _ _ h2⟩
theorem Kp.cell {n₀ Bs : Nat} {A A' : World} (h : Kp n₀ Bs A A') {k : Nat} {v : Value} (hc : A.cell? ⟨Bs, k, none⟩ = some v) : A'.cell? ⟨Bs, k, none⟩ = some v := by
  rw [World.cell?_of_block (w := A) h.own]; exact hc
/-- The iterator's word. -/
def SeqN (F : Fence) (n : Nat) (P : Program) (g : Nat) (lb : Array Value) (encs : Nat → Array Value) (N n₀ Bs : Nat) (w : World) : Prop :=
  ∀ (l : Nat) (J Jx : Nat → World → Prop) (W : World), Below w.heap.size w W → (∀ k A A', Below A.heap.size A A' → J k A → J k A') → (∀ k A A', Below A.heap.size A A' → Jx k A → Jx k A') →
    (∀ k W1, J k W1 → k < N → YieldAt F (n - 1) P l (encs k) W1 fun e W' =>
      (e = .returned (.bool true) ∧ J (k + 1) W' ∧ Kp n₀ Bs W1 W') ∨ (e = .returned (.bool false) ∧ Jx (k + 1) W')) →
    J 0 W → CallsIn F n P g (#[.func (.yield l) #[] #[]] ++ lb) W fun e W' => (∃ v, e = .returned v) ∧ (J N W' ∨ ∃ k, k ≤ N ∧ Jx k W')
/-- How a round may end. -/
def postN (B n₀ Bs : Nat) (I : World → Prop) (Ix : Code → World → Prop) (W : World) : Exit → Act → World → Prop
  | .normal, _, W' => KeepsFrom B W W' ∧ Kp n₀ Bs W W' ∧ I W'
  | .ret, _, W' => KeepsFrom B W W' ∧ Ix .ret W'
  | .exit id, _, W' => KeepsFrom B W W' ∧ Ix (.exit id) W'
  | .goto t, _, W' => KeepsFrom B W W' ∧ Ix (.goto t) W'
  | _, _, _ => False
theorem wpIn_rangeFunc_list {g : Operand} {ps : Array Tmp} {assign body : Code} {Q : Exit → Act → World → Prop} {a : Act} {w : World}
    (hro : F.round = none) (h1 : 1 ≤ n) {gf : Nat} {lb : Array Value} (hg : a.eval g = .func (.func gf) #[] lb) (hFg : F.fn gf) (eg : ∀ args w, (callFunc gf args).run P w = .ok (.enter gf args) w)
    {encs : Nat → Array Value} {N n₀ Bs : Nat} (hseq : SeqN F (n - 1) P gf lb encs N n₀ Bs w) (hn₀ : n₀ ≤ w.heap.size) (hBs : Bs < w.heap.size) (hps : ∀ k, (encs k).size = ps.size)
    (I : Nat → World → Prop) (Ix : Code → Nat → World → Prop) (hI : ∀ k A A', Turn w.heap.size A A' → I k A → I k A') (hIx : ∀ c k A A', Turn w.heap.size A A' → Ix c k A → Ix c k A') (h0 : I 0 w)
    (Ax : Nat → Act → World → Prop) (hAx : ∀ k a' A A', Turn w.heap.size A A' → Ax k a' A → Ax k a' A')
    (hassign : ∀ (l k : Nat) (W : World) (K : Act → World → Prop), I k W → k < N → (∀ a' W', KeepsFrom w.heap.size W W' → Kp n₀ Bs W W' → Ax k a' W' → K a' W') →
      assign.wpIn (F.inRound l) (n - 1 - 1) P (Exit.then K (fun _ _ _ => False)) { tmps := (ps.zip (encs k)).foldl (fun t (p, v) => t.setIfInBounds p v) a.tmps, defers := [] } W)
    (hbody : ∀ (l k : Nat) (a' : Act) (W : World), w.heap.size ≤ l → (∃ r, W.heap[l]? = some (.loop r)) → Ax k a' W → k < N → body.wpIn (F.inRound l) (n - 1 - 1) P (postN w.heap.size n₀ Bs (I (k + 1)) (fun c => Ix c (k + 1)) W) a' W)
    (hdone : ∀ (D : Nat) (W : World), w.heap.size ≤ D → I N W → W.heap[D]? = some (.deferred (some [])) → Q .normal { a with defers := { target := .collected D, args := #[] } :: a.defers } W)
    (hstop : ∀ (D : Nat) (c : Code) (k : Nat) (W : World), w.heap.size ≤ D → k ≤ N → Ix c k W → W.heap[D]? = some (.deferred (some [])) → c.wpIn F n P Q { a with defers := { target := .collected D, args := #[] } :: a.defers } W) :
    (Code.rangeFunc g ps assign body).wpIn F n P Q a w := by
  refine wpIn_rangeFunc fun fn hfn => ?_
  rw [hro]
  obtain ⟨rec, hrec⟩ : ∃ rec : LoopState → Option Code → Loop, rec = fun st pe => { state := st, pending := pe, fn, tmps := a.tmps, params := ps, assign, body, defers := w.heap.size } := ⟨_, rfl⟩
  obtain ⟨W1, hW1⟩ : ∃ W1, (w.alloc (.deferred (some []))).alloc (.loop (rec .ready none)) = W1 := ⟨_, rfl⟩
  have hs1 : W1.heap.size = w.heap.size + 2 := by rw [← hW1]; simp
  have hL1 : W1.heap[w.heap.size + 1]? = some (.loop (rec .ready none)) := by
    have := World.alloc_heap_new (w.alloc (.deferred (some []))) (.loop (rec .ready none))
    rwa [World.size_alloc, hW1] at this
  have hK1 : W1.heap[w.heap.size]? = some (.deferred (some [])) := by
    rw [← hW1]; exact (Below.heap_alloc _ _ _ (by simp)).trans (World.alloc_heap_new w _)
  have hb1 : Below w.heap.size w W1 := by
    rw [← hW1]; exact ((Below.refl _ w).alloc (Nat.le_refl _) _).alloc (by simp) _
  have hI1 : I 0 W1 := hI 0 w W1 (Turn.of_below hb1) h0
  refine ⟨w.heap.size + 1, [{ target := .collected w.heap.size, args := #[] }], W1, { target := .fn (.func gf) lb, args := #[.func (.yield (w.heap.size + 1)) #[] #[]] }, W1, gf,
    #[.func (.yield (w.heap.size + 1)) #[] #[]] ++ lb, W1, ?_, ?_, ?_, ?_, fun _ => h1, ?_⟩
  · rw [← hW1, hrec]; exact run_enterLoop_outer _ _ _ _ _
  · simp only [resolve, hg]
    simp [go_sem]
  · intro f' hf'
    simp [Target.leads] at hf'
    subst hf'; exact hFg
  · simp [invoke, go_sem, eg]
  have keepB : ∀ (A A' : World) (b : Nat) (o : Obj), Below A.heap.size A A' → A.heap[b]? = some o → A'.heap[b]? = some o := fun A A' b o hb h => (hb.block b (lt_of_block h)).trans h
  refine (hseq (w.heap.size + 1)
    (fun k W => I k W ∧ W.heap[w.heap.size + 1]? = some (.loop (rec .ready none)) ∧ W.heap[w.heap.size]? = some (.deferred (some [])))
    (fun k W => ∃ c, Ix c k W ∧ W.heap[w.heap.size + 1]? = some (.loop (rec .done (some c))) ∧ W.heap[w.heap.size]? = some (.deferred (some [])))
    W1 hb1
    (fun k A A' hb ⟨h1, h2, h3⟩ => ⟨hI k A A' (Turn.of_below hb) h1, keepB _ _ _ _ hb h2, keepB _ _ _ _ hb h3⟩)
    (fun k A A' hb ⟨c, h1, h2, h3⟩ => ⟨c, hIx c k A A' (Turn.of_below hb) h1, keepB _ _ _ _ hb h2, keepB _ _ _ _ hb h3⟩) ?_ ⟨hI1, hL1, hK1⟩).mono ?_
  · rintro k W ⟨hi, hl, hk⟩ hlt
    have hy := run_yield (P := P) (args := encs k) hl (by rw [hrec]; exact hps k)
    rw [hrec] at hy
    refine ⟨fn, _, assign, body, hy, roundIn_of_wpIn hfn (hassign _ k W _ hi hlt ?_)⟩
    clear hy
    intro a' Wa hkf hbw hax
    have hl1 := hkf.same _ _ (by omega) hl rfl
    have hk1 := hkf.same _ _ (Nat.le_refl _) hk rfl
    have hl2 : (Wa.putObj (w.heap.size + 1) (.loop { rec .ready none with state := .busy })).heap[w.heap.size + 1]? = some (.loop { rec .ready none with state := .busy }) := World.putObj_heap_same (lt_of_block hl1)
    have hk2 : (Wa.putObj (w.heap.size + 1) (.loop { rec .ready none with state := .busy })).heap[w.heap.size]? = some (.deferred (some [])) := (World.putObj_heap_other (by omega)).trans hk1
    have hb2 : Kp n₀ Bs Wa (Wa.putObj (w.heap.size + 1) (.loop { rec .ready none with state := .busy })) := ⟨belowK_b hn₀ Wa _ _ _ (by omega) hl1 rfl rfl, World.putObj_heap_other (by omega)⟩
    refine ⟨_, run_beginRound hl1 (by rw [hrec]), ?_⟩
    refine wpIn_mono (hbody _ k a' _ (by omega) ⟨_, hl2⟩ (hAx k a' _ _ (Turn.put _ hl1 rfl (by omega)) hax) hlt) ?_
    have fin : ∀ (jump : Option Code) (W3 : World), KeepsFrom w.heap.size (Wa.putObj (w.heap.size + 1) (.loop { rec .ready none with state := .busy })) W3 →
        (Instr.endRound (w.heap.size + 1) jump).run P W3 = .ok (.bool jump.isNone) (W3.putObj (w.heap.size + 1) (.loop (rec (if jump.isNone then .ready else .done) jump))) ∧
        W3.heap[w.heap.size + 1]? = some (.loop { rec .ready none with state := .busy }) ∧
        (W3.putObj (w.heap.size + 1) (.loop (rec (if jump.isNone then .ready else .done) jump))).heap[w.heap.size + 1]? = some (.loop (rec (if jump.isNone then .ready else .done) jump)) ∧
        (W3.putObj (w.heap.size + 1) (.loop (rec (if jump.isNone then .ready else .done) jump))).heap[w.heap.size]? = some (.deferred (some [])) := fun jump W3 hk3 => by
      have hl3 := hk3.same _ _ (by omega) hl2 rfl
      have := run_endRound (P := P) jump hl3
      rw [hrec] at this ⊢
      exact ⟨this, by rw [hrec] at hl3; exact hl3, World.putObj_heap_same (lt_of_block hl3), (World.putObj_heap_other (by omega)).trans (hk3.same _ _ (Nat.le_refl _) hk2 rfl)⟩
    rintro e a3 W3 hp
    have turn : ∀ (o : Obj), W3.heap[w.heap.size + 1]? = some (.loop { rec .ready none with state := .busy }) → Turn w.heap.size W3 (W3.putObj (w.heap.size + 1) o) := fun o h => Turn.put o h rfl (by omega)
    match e, hp with
    | .normal, ⟨hk3, hkp3, hi3⟩ =>
      obtain ⟨hr, hl3, hl4, hk4⟩ := fin none W3 hk3
      exact ⟨_, _, hr, .inl ⟨rfl, ⟨hI _ _ _ (turn _ hl3) hi3, hl4, hk4⟩, (hbw.trans (hb2.trans hkp3)).trans ⟨belowK_b hn₀ W3 _ _ _ (by omega) hl3 rfl rfl, World.putObj_heap_other (by omega)⟩⟩⟩
    | .ret, ⟨hk3, hi3⟩ =>
      obtain ⟨hr, hl3, hl4, hk4⟩ := fin (some .ret) W3 hk3
      exact ⟨_, _, hr, .inr ⟨rfl, .ret, hIx _ _ _ _ (turn _ hl3) hi3, hl4, hk4⟩⟩
    | .exit id, ⟨hk3, hi3⟩ =>
      obtain ⟨hr, hl3, hl4, hk4⟩ := fin (some (.exit id)) W3 hk3
      exact ⟨_, _, hr, .inr ⟨rfl, .exit id, hIx _ _ _ _ (turn _ hl3) hi3, hl4, hk4⟩⟩
    | .goto t, ⟨hk3, hi3⟩ =>
      obtain ⟨hr, hl3, hl4, hk4⟩ := fin (some (.goto t)) W3 hk3
      exact ⟨_, _, hr, .inr ⟨rfl, .goto t, hIx _ _ _ _ (turn _ hl3) hi3, hl4, hk4⟩⟩
  · rintro e W2 ⟨⟨v, rfl⟩, (⟨hi, hl, hk⟩ | ⟨k, hkN, c, hi, hl, hk⟩)⟩
    · have hend := run_endLoop (P := P) hl (by rw [hrec]; simp)
      rw [hrec] at hend
      exact ⟨none, _, hend, hdone _ _ (Nat.le_refl _) (hI _ _ _ (Turn.put _ hl rfl (by omega)) hi) ((World.putObj_heap_other (by omega)).trans hk)⟩
    · have hend := run_endLoop (P := P) hl (by rw [hrec]; simp)
      rw [hrec] at hend
      exact ⟨some c, _, hend, hstop _ c k _ (Nat.le_refl _) hkN (hIx c _ _ _ (Turn.put _ hl rfl (by omega)) hi) ((World.putObj_heap_other (by omega)).trans hk)⟩
end Go.Proofs.YtpdbokbmchlgpaaGreat.PK
