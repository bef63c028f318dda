/- Packed of several texts. -/
import Derived.Test.YtbbbflnnbbaamaaGreatDoorH01
import Derived.Deep.AppendSrc
import Derived.Deep.MidRow
import Derived.Deep.Upon
import Derived.Laws.MakeOwn
import Derived.CallsIn
import Derived.Below
namespace Go.Proofs.YtbbbflnnbbaamaaGreatDoor.Mini
open Go.RowKit

structure Loc where
 b : Nat
 s : Nat
 k : Nat
abbrev Env := Nat → Option Loc
def Env.le (x y : Env) : Prop := ∀ n L, x n = some L → y n = some L
theorem Env.le_refl (x : Env) : x.le x := fun _ _ h => h
theorem Env.le_trans {x y z : Env} (h : x.le y) (k : y.le z) : x.le z := fun n L e => k n L (h n L e)
def Cap.val : Cap → Loc → Nat
 | .exact c, _ => c
 | .open e, L => L.k - e
mutual
inductive Rnd (x : Env) : MV → Value → Prop
 | v (y : Value) : Rnd x (.v y) y
 | ptr {n off : Nat} {L : Loc} (h : x n = some L) : Rnd x (.ptr n off) (.pointer (some ⟨L.b, L.s + off, none⟩))
 | sl {n off len : Nat} {c : Cap} {L : Loc} (h : x n = some L) (hc : len ≤ c.val L) : Rnd x (.sl n off len c) (.slice (some ⟨L.b, L.s + off, none⟩) len (c.val L))
 | emp (a : Addr) (c : Nat) : Rnd x .emp (.slice (some a) 0 c)
 | yld {n : Nat} {L : Loc} (h : x n = some L) : Rnd x (.yld n) (.func (.yield L.b) #[] #[])
 | mref {n : Nat} {L : Loc} (h : x n = some L) : Rnd x (.mref n) (.map (some L.b))
 | clo {f : Fn} {cs : List MV} {vs : List Value} (h : Rnds x cs vs) : Rnd x (.clo f cs) (.func f #[] vs.toArray)
 | agg {cs : List MV} {vs : List Value} (h : Rnds x cs vs) : Rnd x (.agg cs) (.agg vs.toArray)
 | tup {cs : List MV} {vs : List Value} (h : Rnds x cs vs) : Rnd x (.tup cs) (.tuple vs.toArray)
inductive Rnds (x : Env) : List MV → List Value → Prop
 | nil : Rnds x [] []
 | cons {m : MV} {v : Value} {ms : List MV} {vs : List Value} (h : Rnd x m v) (hs : Rnds x ms vs) : Rnds x (m :: ms) (v :: vs)
end
mutual
theorem Rnd.le {x y : Env} (hl : x.le y) : ∀ {m : MV} {v : Value}, Rnd x m v → Rnd y m v
 | _, _, .v z => .v z
 | _, _, .ptr h => .ptr (hl _ _ h)
 | _, _, .sl h hc => .sl (hl _ _ h) hc
 | _, _, .emp a c => .emp a c
 | _, _, .yld h => .yld (hl _ _ h)
 | _, _, .mref h => .mref (hl _ _ h)
 | _, _, .clo h => .clo (Rnds.le hl h)
 | _, _, .agg h => .agg (Rnds.le hl h)
 | _, _, .tup h => .tup (Rnds.le hl h)
theorem Rnds.le {x y : Env} (hl : x.le y) : ∀ {ms : List MV} {vs : List Value}, Rnds x ms vs → Rnds y ms vs
 | _, _, .nil => .nil
 | _, _, .cons h hs => .cons (Rnd.le hl h) (Rnds.le hl hs)
end
theorem Rnds.length {x : Env} : ∀ {ms : List MV} {vs : List Value}, Rnds x ms vs → ms.length = vs.length
 | _, _, .nil => rfl
 | _, _, .cons _ hs => by simp [Rnds.length hs]
theorem Rnds.get {x : Env} : ∀ {ms : List MV} {vs : List Value}, Rnds x ms vs → ∀ (j : Nat) (m : MV), ms[j]? = some m → ∃ v, vs[j]? = some v ∧ Rnd x m v
 | _, _, .nil, j, m, h => by simp at h
 | _, _, .cons h hs, 0, m, hj => by simp at hj; subst hj; exact ⟨_, rfl, h⟩
 | _, _, .cons h hs, j + 1, m, hj => by simpa using Rnds.get hs j m (by simpa using hj)
theorem Rnds.append {x : Env} : ∀ {ms : List MV} {vs : List Value}, Rnds x ms vs → ∀ {ns : List MV} {us : List Value}, Rnds x ns us → Rnds x (ms ++ ns) (vs ++ us)
 | _, _, .nil, _, _, k => k
 | _, _, .cons h hs, _, _, k => .cons h (Rnds.append hs k)
theorem Rnds.take {x : Env} : ∀ {ms : List MV} {vs : List Value}, Rnds x ms vs → ∀ n, Rnds x (ms.take n) (vs.take n)
 | _, _, .nil, n => by simp; exact .nil
 | _, _, .cons h hs, 0 => .nil
 | _, _, .cons h hs, n + 1 => .cons h (Rnds.take hs n)
theorem Rnds.drop {x : Env} : ∀ {ms : List MV} {vs : List Value}, Rnds x ms vs → ∀ n, Rnds x (ms.drop n) (vs.drop n)
 | _, _, .nil, n => by simp; exact .nil
 | _, _, .cons h hs, 0 => .cons h hs
 | _, _, .cons h hs, n + 1 => Rnds.drop hs n
theorem Rnds.plain (x : Env) : ∀ (vs : List Value), Rnds x (vs.map .v) vs
 | [] => .nil
 | v :: vs => .cons (.v v) (Rnds.plain x vs)
theorem Rnd.v_eq {x : Env} {y v : Value} (h : Rnd x (.v y) v) : v = y := by cases h; rfl
theorem Rnd.leaf {x : Env} {m : MV} {v : Value} (h : Rnd x m v) (hl : m.leaf = true) : v.oneCell' = true := by
 cases h with
 | v => cases v <;> first | rfl | cases hl
 | ptr _ => rfl
 | sl _ _ => rfl
 | emp _ _ => rfl
 | yld _ => rfl
 | mref _ => rfl
 | clo _ => rfl
 | agg _ => cases hl
 | tup _ => cases hl
theorem Rnds.leaf {x : Env} : ∀ {ms : List MV} {vs : List Value}, Rnds x ms vs → ms.all MV.leaf = true → ∀ v ∈ vs, v.oneCell' = true
 | _, _, .nil, _, v, hv => by cases hv
 | _, _, .cons h hs, ha, v, hv => by
  simp only [List.all_cons, Bool.and_eq_true] at ha
  rcases List.mem_cons.1 hv with rfl | h1
  ·exact h.leaf ha.1
  ·exact hs.leaf ha.2 v h1
theorem Rnd.cells {x : Env} {m : MV} {v : Value} (h : Rnd x m v) : Rnds x m.cells v.cells.toList := by
 cases h with
 | v => cases v <;> first | exact .cons (.v _) .nil | exact Rnds.plain x _
 | ptr h => exact .cons (.ptr h) .nil
 | sl h hc => exact .cons (.sl h hc) .nil
 | emp a c => exact .cons (.emp a c) .nil
 | yld h => exact .cons (.yld h) .nil
 | mref h => exact .cons (.mref h) .nil
 | clo h => exact .cons (.clo h) .nil
 | agg h => exact h
 | tup h => exact .cons (.tup h) .nil

/-! ### Rows -/
structure RowAt (x : Env) (w : World) (L : Loc) (r : Row) : Prop where
 arr : ∃ a, w.heap[L.b]? = some (.cells a r.ty (0, 0)) ∧ (r.opn = true → L.s + L.k * r.esz ≤ a.size)
 cel : ∀ i, i < r.size → ∃ v, w.cell? ⟨L.b, L.s + i, none⟩ = some v ∧ Rnd x (r.cell i) v ∧ v.oneCell' = true
 small : r.size ≤ far
structure FrT (x : Env) (F : Fr) (tmps : Array Value) : Prop where
 size : tmps.size = F.n
 ev : ∀ i, Rnd x ((F.t.get i).getD MV.undef) (tmps.getD i Go.undef)
theorem FrT.le {x y : Env} {F : Fr} {a : Array Value} (h : FrT x F a) (hl : x.le y) : FrT y F a := ⟨h.size, fun i => (h.ev i).le hl⟩
def LpSt.st : LpSt → LoopState
 | .ready => .ready
 | .busy => .busy
 | .done => .done
def Jmp.code : Jmp → Code
 | .ret => .ret
 | .exit i => .exit i
structure LpIs (x : Env) (q : Lp) (r : Loop) : Prop where
 st : r.state = q.st.st
 pend : r.pending = q.pend.map Jmp.code
 tmps : FrT x q.fr r.tmps
 ps : r.params.toList = q.ps
 asg : r.assign = q.asg
 bd : r.body = q.bd
 dfr : ∃ D, x q.dfr = some D ∧ D.b = r.defers
theorem LpIs.le {x y : Env} {q : Lp} {r : Loop} (h : LpIs x q r) (hl : x.le y) : LpIs y q r :=
 ⟨h.st, h.pend, h.tmps.le hl, h.ps, h.asg, h.bd, let ⟨D, h1, h2⟩ := h.dfr; ⟨D, hl _ _ h1, h2⟩⟩
def CellAt (x : Env) (w : World) (L : Loc) : Cell → Prop
 | .live r => RowAt x w L r
 | .dead => True
 | .lp q => ∃ r, w.heap[L.b]? = some (.loop r) ∧ LpIs x q r
 | .dfr => w.heap[L.b]? = some (.deferred (some []))
 | .mp kk es => ∃ a clock, w.heap[L.b]? = some (.map a clock) ∧ a.toList.map (fun e => (e.key, e.val)) = es.map fun e => (Value.int kk e.1, e.2)
structure Rel (B : Nat) (x : Env) (H : Heap) (w : World) : Prop where
 live : ∀ n c, H.get n = some c → c ≠ .dead → ∃ L, x n = some L ∧ B ≤ L.b ∧ L.b < w.heap.size ∧ CellAt x w L c
 inj : ∀ n m c c' L L', H.get n = some c → c ≠ .dead → H.get m = some c' → c' ≠ .dead → x n = some L → x m = some L' → L.b = L'.b → n = m
 dom : ∀ n L, x n = some L → H.get n ≠ none
 base : B ≤ w.heap.size
theorem RowAt.lt {x : Env} {w : World} {L : Loc} {r : Row} (h : RowAt x w L r) : L.b < w.heap.size := by
 obtain ⟨a, ha, _⟩ := h.arr
 exact (Array.getElem?_eq_some_iff.1 ha).1
theorem RowAt.frozen {x : Env} {w : World} {L : Loc} {r : Row} (h : RowAt x w L r) (j : Nat) : w.frozen? ⟨L.b, j, none⟩ = false := by
 obtain ⟨a, ha, _⟩ := h.arr
 exact frozen_of_row w L.b j a r.ty ha
theorem RowAt.of_block {x y : Env} {w w' : World} {L : Loc} {r : Row} (h : RowAt x w L r) (hl : x.le y) (e : w'.heap[L.b]? = w.heap[L.b]?) : RowAt y w' L r := by
 obtain ⟨a, ha, hs⟩ := h.arr
 refine ⟨⟨a, by rw [e]; exact ha, hs⟩, fun i hi => ?_, h.small⟩
 obtain ⟨v, h1, h2, h3⟩ := h.cel i hi
 exact ⟨v, by rw [World.cell?_of_block (a := ⟨L.b, L.s + i, none⟩) e]; exact h1, h2.le hl, h3⟩
theorem CellAt.of_block {x y : Env} {w w' : World} {L : Loc} {c : Cell} (h : CellAt x w L c) (hl : x.le y) (e : w'.heap[L.b]? = w.heap[L.b]?) : CellAt y w' L c := by
 cases c with
 | live r => exact RowAt.of_block h hl e
 | dead => trivial
 | lp q => obtain ⟨r, h1, h2⟩ := h; exact ⟨r, e.trans h1, h2.le hl⟩
 | dfr => exact e.trans h
 | mp kk es => obtain ⟨a, c, h1, h2⟩ := h; exact ⟨a, c, e.trans h1, h2⟩
theorem Rel.row {B : Nat} {x : Env} {H : Heap} {w : World} (h : Rel B x H w) (n : Nat) (r : Row) (hn : H.get n = some (.live r)) : ∃ L, x n = some L ∧ B ≤ L.b ∧ RowAt x w L r :=
 let ⟨L, h1, h2, _, h3⟩ := h.live n _ hn (fun e => by cases e); ⟨L, h1, h2, h3⟩
theorem Rel.same {B : Nat} {x : Env} {H : Heap} {w w' : World} (h : Rel B x H w) (e : w'.heap = w.heap) : Rel B x H w' :=
 ⟨fun n r hn hd => let ⟨L, h1, h2, h3, h4⟩ := h.live n r hn hd; ⟨L, h1, h2, by rw [e]; exact h3, h4.of_block (Env.le_refl x) (by rw [e])⟩, h.inj, h.dom, by rw [e]; exact h.base⟩
theorem Rel.newC {B : Nat} {x : Env} {H : Heap} {w w' : World} (h : Rel B x H w) {c : Nat} (hc : H.get c = none) (hf : c < far) {d : Cell} (hold : ∀ k, k < w.heap.size → w'.heap[k]? = w.heap[k]?)
  (hsz : w.heap.size < w'.heap.size) (k : Nat) (hcell : ∀ y, x.le y → CellAt y w' ⟨w.heap.size, 0, k⟩ d) :
  ∃ y, x.le y ∧ y c = some ⟨w.heap.size, 0, k⟩ ∧ Rel B y (H.set c d) w' := by
 have hxc : x c = none := by
  cases e : x c with
  | none => rfl
  | some L => exact absurd hc (h.dom c L e)
 let y : Env := fun n => if n = c then some ⟨w.heap.size, 0, k⟩ else x n
 have hle : x.le y := fun n L e => by
  show (if n = c then _ else x n) = _
  rw [if_neg (fun e2 => by subst e2; rw [hxc] at e; cases e)]
  exact e
 have yc : y c = some ⟨w.heap.size, 0, k⟩ := if_pos rfl
 have yn : ∀ n, n ≠ c → y n = x n := fun n hn => if_neg hn
 refine ⟨y, hle, yc, fun n d' hn hd' => ?_, fun n m d1 d2 L L' hn hd1 hm hd2 hL hL' e => ?_, fun n L hL => ?_, Nat.le_of_lt (Nat.lt_of_le_of_lt h.base hsz)⟩
 ·rw [T.get_set _ _ _ _ hf] at hn
  by_cases e : n = c
  ·subst e
   rw [if_pos rfl] at hn
   cases hn
   exact ⟨_, yc, h.base, hsz, hcell y hle⟩
  ·rw [if_neg e] at hn
   obtain ⟨L, h1, h2, h3, h4⟩ := h.live n d' hn hd'
   exact ⟨L, hle _ _ h1, h2, Nat.lt_trans h3 hsz, h4.of_block hle (hold _ h3)⟩
 ·rw [T.get_set _ _ _ _ hf] at hn hm
  by_cases e1 : n = c
  ·by_cases e2 : m = c
   ·rw [e1, e2]
   ·rw [if_neg e2] at hm
    rw [e1, yc] at hL
    cases hL
    rw [yn m e2] at hL'
    obtain ⟨L2, h1, h2, h3, _⟩ := h.live m d2 hm hd2
    rw [hL'] at h1
    cases h1
    dsimp only at e
    omega
  ·by_cases e2 : m = c
   ·rw [if_neg e1] at hn
    rw [e2, yc] at hL'
    cases hL'
    rw [yn n e1] at hL
    obtain ⟨L2, h1, h2, h3, _⟩ := h.live n d1 hn hd1
    rw [hL] at h1
    cases h1
    dsimp only at e
    omega
   ·rw [if_neg e1] at hn
    rw [if_neg e2] at hm
    exact h.inj n m d1 d2 L L' hn hd1 hm hd2 (by rw [← yn n e1]; exact hL) (by rw [← yn m e2]; exact hL') e
 ·rw [T.get_set _ _ _ _ hf]
  by_cases e : n = c
  ·rw [if_pos e]; simp
  ·rw [if_neg e]
   exact h.dom n L (by rw [← yn n e]; exact hL)
theorem Rel.new {B : Nat} {x : Env} {H : Heap} {w w' : World} (h : Rel B x H w) {c : Nat} (hc : H.get c = none) (hf : c < far) {r : Row} {a : Array Value} (hb : w'.heap[w.heap.size]? = some (.cells a r.ty (0, 0))) (hold : ∀ k, k < w.heap.size → w'.heap[k]? = w.heap[k]?)
  (k : Nat) (ho : r.opn = true → k * r.esz ≤ a.size) (hfr : r.size ≤ far) (hcel : ∀ i, i < r.size → ∃ v, a[i]? = some v ∧ Rnd x (r.cell i) v ∧ v.oneCell' = true) :
  ∃ y, x.le y ∧ y c = some ⟨w.heap.size, 0, k⟩ ∧ Rel B y (H.set c (.live r)) w' :=
 h.newC hc hf hold (Array.getElem?_eq_some_iff.1 hb).1 k fun y hy => by
  refine ⟨⟨a, hb, fun ho' => by rw [Nat.zero_add]; exact ho ho'⟩, fun i hi => ?_, hfr⟩
  obtain ⟨v, h1, h2, h3⟩ := hcel i hi
  exact ⟨v, by rw [cell_of_row w' _ _ a _ _ hb, Nat.zero_add]; exact h1, h2.le hy, h3⟩
theorem Rel.putC {B : Nat} {x : Env} {H : Heap} {w w' : World} (h : Rel B x H w) {n : Nat} {c0 c1 : Cell} (hn : H.get n = some c0) (h0 : c0 ≠ .dead) (hf : n < far) {L : Loc} (hL : x n = some L) (hold : ∀ k, k ≠ L.b → w'.heap[k]? = w.heap[k]?) (hsz : w'.heap.size = w.heap.size) (hcell : CellAt x w' L c1) :
  Rel B x (H.set n c1) w' := by
 refine ⟨fun m d hm hd => ?_, fun m1 m2 d1 d2 L1 L2 hm1 hd1 hm2 hd2 hL1 hL2 e => ?_, fun m L' hm => ?_, by rw [hsz]; exact h.base⟩
 ·rw [T.get_set _ _ _ _ hf] at hm
  by_cases e : m = n
  ·subst e
   rw [if_pos rfl] at hm
   cases hm
   obtain ⟨L', h2, h3, h4, _⟩ := h.live m c0 hn h0
   rw [hL] at h2
   cases h2
   exact ⟨L, hL, h3, by rw [hsz]; exact h4, hcell⟩
  ·rw [if_neg e] at hm
   obtain ⟨L', h2, h3, h4, h5⟩ := h.live m d hm hd
   exact ⟨L', h2, h3, by rw [hsz]; exact h4, h5.of_block (Env.le_refl x) (hold _ (fun e2 => e (h.inj m n d c0 L' L hm hd hn h0 h2 hL e2)))⟩
 ·rw [T.get_set _ _ _ _ hf] at hm1 hm2
  have g : ∀ m d, (if m = n then some c1 else H.get m) = some d → d ≠ .dead → ∃ d', H.get m = some d' ∧ d' ≠ .dead := fun m d hm hd => by
   by_cases e : m = n
   ·subst e; exact ⟨c0, hn, h0⟩
   ·rw [if_neg e] at hm; exact ⟨d, hm, hd⟩
  obtain ⟨q1, hq1, hz1⟩ := g m1 d1 hm1 hd1
  obtain ⟨q2, hq2, hz2⟩ := g m2 d2 hm2 hd2
  exact h.inj m1 m2 q1 q2 L1 L2 hq1 hz1 hq2 hz2 hL1 hL2 e
 ·rw [T.get_set _ _ _ _ hf]
  by_cases e : m = n
  ·rw [if_pos e]; simp
  ·rw [if_neg e]; exact h.dom m L' hm
theorem setCells_block (b : Nat) : ∀ (vs : List Value) (o : Nat) (w : World) (a : Array Value) (t : TypeId), w.heap[b]? = some (.cells a t (0, 0)) → ∃ a', (w.setCells b o vs).heap[b]? = some (.cells a' t (0, 0)) ∧ a'.size = a.size
 | [], o, w, a, t, h => ⟨a, h, rfl⟩
 | v :: vs, o, w, a, t, h => by
  have h1 := heap_setCell_same w b o a t v h
  obtain ⟨a', h2, h3⟩ := setCells_block b vs (o + 1) (w.setCell ⟨b, o, none⟩ v) _ t h1
  exact ⟨a', h2, by rw [h3]; simp⟩
theorem setCells_other (b k : Nat) (hk : k ≠ b) : ∀ (vs : List Value) (o : Nat) (w : World), (w.setCells b o vs).heap[k]? = w.heap[k]?
 | [], o, w => rfl
 | v :: vs, o, w => by
  show ((w.setCell ⟨b, o, none⟩ v).setCells b (o + 1) vs).heap[k]? = _
  rw [setCells_other b k hk vs (o + 1) _, heap_setCell_other w ⟨b, o, none⟩ k v hk]
theorem setCells_size (b : Nat) : ∀ (vs : List Value) (o : Nat) (w : World), (w.setCells b o vs).heap.size = w.heap.size
 | [], o, w => rfl
 | v :: vs, o, w => by
  show ((w.setCell ⟨b, o, none⟩ v).setCells b (o + 1) vs).heap.size = _
  rw [setCells_size b vs (o + 1) _]
  simp
theorem setCells_below {B b : Nat} (hb : B ≤ b) : ∀ (vs : List Value) (o : Nat) (w : World), Below B w (w.setCells b o vs)
 | [], _, w => Below.refl B w
 | v :: vs, o, w => ((Below.refl B w).setCell (p := ⟨b, o, none⟩) hb v).trans (setCells_below hb vs (o + 1) _)
theorem RowAt.store {x : Env} {w : World} {L : Loc} {r : Row} (h : RowAt x w L r) {off : Nat} {cs : List MV} {vs : List Value} (hv : Rnds x cs vs) (h1 : ∀ v ∈ vs, v.oneCell' = true) (hle : off + cs.length ≤ r.size) :
  RowAt x (w.setCells L.b (L.s + off) vs) L ⟨r.ty, r.esz, r.size, r.opn, Fill r.cs off cs, r.zero⟩ := by
 obtain ⟨a, ha, hs⟩ := h.arr
 obtain ⟨a', ha', hs'⟩ := setCells_block L.b vs (L.s + off) w a r.ty ha
 refine ⟨⟨a', ha', fun ho => by rw [hs']; exact hs ho⟩, fun i hi => ?_, h.small⟩
 have hl := hv.length
 have hf := h.small
 have hsome : ∀ j, j < vs.length → (w.cell? ⟨L.b, L.s + off + j, none⟩).isSome = true := fun j hj => by
  obtain ⟨v, hc, _⟩ := h.cel (off + j) (by omega)
  rw [show L.s + off + j = L.s + (off + j) by omega, hc]; rfl
 have hcell : (Row.mk r.ty r.esz r.size r.opn (Fill r.cs off cs) r.zero).cell i = if off ≤ i ∧ i < off + cs.length then cs.getD (i - off) MV.undef else r.cell i := by
  unfold Row.cell
  dsimp only
  rw [get_fill _ _ _ _ (by omega)]
  by_cases e : off ≤ i ∧ i < off + cs.length
  ·rw [if_pos e, if_pos e, List.getElem?_eq_getElem (by omega)]
   simp [List.getD_eq_getElem?_getD, List.getElem?_eq_getElem (show i - off < cs.length by omega)]
  ·rw [if_neg e, if_neg e]
 rw [hcell]
 by_cases e : off ≤ i ∧ i < off + cs.length
 ·rw [if_pos e]
  have hj : i - off < vs.length := by omega
  have hin := World.cell?_setCells_in L.b vs (L.s + off) w hsome (i - off) hj
  rw [show L.s + off + (i - off) = L.s + i by omega] at hin
  obtain ⟨v, e1, e2⟩ := hv.get (i - off) (cs.getD (i - off) MV.undef) (by simp [List.getD_eq_getElem?_getD, List.getElem?_eq_getElem (show i - off < cs.length by omega)])
  rw [List.getElem?_eq_getElem hj] at e1
  cases e1
  exact ⟨_, hin, e2, h1 _ (List.getElem_mem _)⟩
 ·rw [if_neg e]
  obtain ⟨v, h2, h3, h4⟩ := h.cel i hi
  refine ⟨v, ?_, h3, h4⟩
  rw [World.cell?_setCells_out L.b vs (L.s + off) w _ (fun _ _ => by show L.s + i < L.s + off ∨ L.s + off + vs.length ≤ L.s + i; omega)]
  exact h2
theorem Rel.store {B : Nat} {x : Env} {H : Heap} {w : World} (h : Rel B x H w) {n : Nat} {r : Row} (hn : H.get n = some (.live r)) (hf : n < far) {L : Loc} (hL : x n = some L) {off : Nat} {cs : List MV} {vs : List Value} (hv : Rnds x cs vs) (h1 : ∀ v ∈ vs, v.oneCell' = true) (hle : off + cs.length ≤ r.size) :
  Rel B x (H.set n (.live ⟨r.ty, r.esz, r.size, r.opn, Fill r.cs off cs, r.zero⟩)) (w.setCells L.b (L.s + off) vs) := by
 obtain ⟨L', h2, h3, h4⟩ := h.row n r hn
 rw [hL] at h2
 cases h2
 exact h.putC hn (fun e => by cases e) hf hL (fun k hk => setCells_other _ _ hk _ _ _) (setCells_size _ _ _ _) (h4.store hv h1 hle)
theorem Rel.turn {B : Nat} {x : Env} {H : Heap} {w w' : World} (h : Rel B x H w) {n c : Nat} {r : Row} (hn : H.get n = some (.live r)) (hfn : n < far) (hc : H.get c = none) (hfc : c < far) {L : Loc} (hL : x n = some L) {r' : Row} {L' : Loc} (hb : L'.b = L.b)
  (hold : ∀ k, k ≠ L.b → w'.heap[k]? = w.heap[k]?) (hsz : w'.heap.size = w.heap.size) (hrow : ∀ y, x.le y → y c = some L' → RowAt y w' L' r') :
  ∃ y, x.le y ∧ y c = some L' ∧ Rel B y ((H.set n .dead).set c (.live r')) w' := by
 have hxc : x c = none := by
  cases e : x c with
  | none => rfl
  | some L => exact absurd hc (h.dom c L e)
 have hnc : n ≠ c := fun e => by rw [e, hc] at hn; cases hn
 let y : Env := fun m => if m = c then some L' else x m
 have hle : x.le y := fun m L e => by
  show (if m = c then _ else x m) = _
  rw [if_neg (fun e2 => by subst e2; rw [hxc] at e; cases e)]
  exact e
 have yc : y c = some L' := if_pos rfl
 have yn : ∀ m, m ≠ c → y m = x m := fun m hm => if_neg hm
 have hg : ∀ m, ((H.set n .dead).set c (.live r')).get m = if m = c then some (.live r') else if m = n then some .dead else H.get m := fun m => by
  rw [T.get_set _ _ _ _ hfc, T.get_set _ _ _ _ hfn]
 obtain ⟨L0, h1, h2, h3⟩ := h.row n r hn
 rw [hL] at h1
 cases h1
 refine ⟨y, hle, yc, fun m q hm hd => ?_, fun m1 m2 q1 q2 L1 L2 hm1 hd1 hm2 hd2 hL1 hL2 e => ?_, fun m L2 hm => ?_, by rw [hsz]; exact h.base⟩
 ·rw [hg] at hm
  by_cases e : m = c
  ·subst e
   rw [if_pos rfl] at hm
   cases hm
   exact ⟨L', yc, by rw [hb]; exact h2, by rw [hb, hsz]; exact h3.lt, hrow y hle yc⟩
  ·rw [if_neg e] at hm
   by_cases e2 : m = n
   ·rw [if_pos e2] at hm; cases hm; exact absurd rfl hd
   ·rw [if_neg e2] at hm
    obtain ⟨L2, k1, k2, k4, k3⟩ := h.live m q hm hd
    exact ⟨L2, hle _ _ k1, k2, by rw [hsz]; exact k4, k3.of_block hle (hold _ fun e3 => e2 (h.inj m n q _ L2 L hm hd hn (fun e => by cases e) k1 hL e3))⟩
 ·rw [hg] at hm1 hm2
  have g : ∀ m q L2, (if m = c then some (.live r') else if m = n then some Cell.dead else H.get m) = some q → q ≠ .dead → y m = some L2 → m ≠ c → H.get m = some q ∧ x m = some L2 ∧ L2.b ≠ L.b := fun m q L2 hm hd hy e => by
   rw [if_neg e] at hm
   by_cases e2 : m = n
   ·rw [if_pos e2] at hm; cases hm; exact absurd rfl hd
   ·rw [if_neg e2] at hm
    rw [yn m e] at hy
    exact ⟨hm, hy, fun e3 => e2 (h.inj m n q _ L2 L hm hd hn (fun e => by cases e) hy hL e3)⟩
  by_cases e1 : m1 = c
  ·by_cases e2 : m2 = c
   ·rw [e1, e2]
   ·obtain ⟨_, _, k3⟩ := g m2 q2 L2 hm2 hd2 hL2 e2
    rw [e1, yc] at hL1
    cases hL1
    exact absurd (e.symm.trans hb) k3
  ·by_cases e2 : m2 = c
   ·obtain ⟨_, _, k3⟩ := g m1 q1 L1 hm1 hd1 hL1 e1
    rw [e2, yc] at hL2
    cases hL2
    exact absurd (e.trans hb) k3
   ·obtain ⟨k1, k2, _⟩ := g m1 q1 L1 hm1 hd1 hL1 e1
    obtain ⟨j1, j2, _⟩ := g m2 q2 L2 hm2 hd2 hL2 e2
    exact h.inj m1 m2 q1 q2 L1 L2 k1 hd1 j1 hd2 k2 j2 e
 ·rw [hg]
  by_cases e : m = c
  ·rw [if_pos e]; simp
  ·rw [if_neg e]
   by_cases e2 : m = n
   ·rw [if_pos e2]; simp
   ·rw [if_neg e2]
    exact h.dom m L2 (by rw [← yn m e]; exact hm)
theorem RowAt.range {x : Env} {w : World} {L : Loc} {r : Row} (h : RowAt x w L r) : ∀ (n off : Nat), off + n ≤ r.size → ∃ vs, Rnds x (readL r n off) vs ∧ vs.length = n ∧ w.rangeAt L.b (L.s + off) vs ∧ ∀ v ∈ vs, v.oneCell' = true
 | 0, off, _ => ⟨[], .nil, rfl, fun j v hj => by simp at hj, fun v hv => by cases hv⟩
 | n + 1, off, hle => by
  obtain ⟨v, h1, h2, h3⟩ := h.cel off (by omega)
  obtain ⟨vs, k1, k2, k3, k4⟩ := h.range n (off + 1) (by omega)
  refine ⟨v :: vs, .cons h2 k1, by simp [k2], fun j u hj => ?_, fun u hu => ?_⟩
  ·cases j with
   | zero => simp at hj; subst hj; exact h1
   | succ j =>
    have := k3 j u (by simpa using hj)
    rw [show L.s + off + (j + 1) = L.s + (off + 1) + j by omega]
    exact this
  ·rcases List.mem_cons.1 hu with rfl | hu
   ·exact h3
   ·exact k4 u hu
end Go.Proofs.YtbbbflnnbbaamaaGreatDoor.Mini
