/- The walk of the iterator of time.orders: the function that calls itself. -/
import Derived.Test.YtccpjfppkahbmaaB0
import Derived.Test.YtccpjfppkahbmaaB1
import Derived.Test.YtccpjfppkahbmaaB2
namespace Go.Proofs.Ytccpjfppkahbmaa
open Go.RowKit Go.Shelf PK

attribute [local go_sem] Oper.semAt_some

theorem room_none {F : Fence} (hd : F.depth = none) (k : Nat) : F.room k := fun d h => by rw [hd] at h; cases h
theorem yieldAt_any {F : Fence} (hd : F.depth = none) {m : Nat} (m' : Nat) {P : Program} {l : Nat} {args : Array Value} {W : World} {R : Ending → World → Prop} (h : YieldAt F m P l args W R) : YieldAt F m' P l args W R := by
  obtain ⟨fn, tmps, assign, body, hy, h1, h2⟩ := h
  exact ⟨fn, tmps, assign, body, hy, h1, fun c cs _ => h2 c cs (room_none hd _)⟩
/-- append to a row of the call's own, inside a fence; the block is the old one or a new one. -/
theorem wpListIn_append_own_at {F : Fence} {n : Nat} {P : Program} (w : World) {ops : Array Oper} {rest : List Oper} {o : Oper} {a : Act} {Q : Exit → Act → World → Prop}
    (hg : o.guard = none) (s x : Operand) (t : TypeId) (hop : o.op = Op.call { callee := Callee.builtin Builtin.append, args := #[s, x], argTypes := #[t, t] })
    (base : Nat) (e : TypeId) (i : TypeInfo) (z : Value) (size bytes : Nat) (h1 : P.underlying t = some (.slice e)) (h2 : P.info? e = some i) (h3 : i.zero = some z) (h4 : i.size = size) (h5 : i.bytes = bytes) (h6 : z.cells.size = size) (h7 : 0 < size)
    (v : Value) (k : Nat) (xs : List Value) (hs : a.eval s = v) (hown : w.ownsRow base e size v k xs) (ad : Addr) (m c : Nat) (news : List Value) (hx : a.eval x = .slice (some ad) m c) (hn : news.length = m * size)
    (hc : ∀ j u, news[j]? = some u → w.cell? (ad.add j) = some u) (h1c : ∀ u ∈ news, u.oneCell' = true) (b1 : k + m ≤ maxLen) (b2 : (k + m) * bytes ≤ 140737488355328) (b3 : base ≤ w.heap.size)
    (hK : ∀ v' w', w'.ownsRow base e size v' (k + m) (xs ++ news) → w.grownBy w' v.ownBlock → (v'.ownBlock = v.ownBlock ∨ v'.ownBlock = some w.heap.size) → wpListIn F n P ops Q rest (a.put o.dst v') w') :
    wpListIn F n P ops Q (o :: rest) a w := by
  refine wpListIn_plain hg fun K hK' => ?_
  obtain ⟨v', w', hrun, r1, r2, r3, r4⟩ := run_append_own_at (P := P) w base t o.type e i z size bytes h1 h2 h3 h4 h5 h6 h7 v k xs hown ad m c news hn hc h1c b1 b2 b3
  unfold Oper.wpIn
  refine ⟨?_, ?_⟩
  · simp [Oper.about, hop, resolve, Target.leads, Sem.run_pure]
  · rw [Oper.semAt_plain F _ _ (by rw [hop]; intro c hc'; cases hc')]
    simp [execOp, hop, resolve, invoke, builtin, hs, hx, hrun, Result.andThen]
    exact hK' _ _ (hK v' w' r1 r2 r4)
/-- What an iterator's call holds: all of it lies in blocks of M. -/
structure OrdSt (lo n Bl Bo By Bn Bm q L : Nat) (la : Option Addr) (lc : Nat) (R : Nat → List Int) (M : Nat → Prop) (W : World) (v : Value) (o : List Int) : Prop where
  mlt : ∀ k, M k → k < W.heap.size
  bl : W.cell? ⟨Bl, 0, none⟩ = some (.slice la n lc)
  ml : M Bl
  bo : Boxed W Bo 25 v
  mo : M Bo
  by_ : W.cell? ⟨By, 0, none⟩ = some (.func (.yield L) #[] #[])
  my : M By
  bn : W.cell? ⟨Bn, 0, none⟩ = some (.slice (some ⟨q, 0, none⟩) n n)
  mn : M Bn
  bm : W.cell? ⟨Bm, 0, none⟩ = some (.func (.func 92) #[] #[.pointer (some ⟨Bo, 0, none⟩), .pointer (some ⟨Bl, 0, none⟩), .pointer (some ⟨By, 0, none⟩), .pointer (some ⟨Bn, 0, none⟩), .pointer (some ⟨Bm, 0, none⟩)])
  mm : M Bm
  tab : ∀ k, k < n → ∃ a cap, W.cell? ⟨q, k, none⟩ = some (.slice a (R k).length cap) ∧ IntsIn W a (R k) ∧ ∀ j, j < (R k).length → ∃ b off, a = some ⟨b, off, none⟩ ∧ M b ∧ b < lo ∧ b ≠ Bo
  mq : M q
  row : W.ownsRow lo 3 1 v o.length (PK.encI o)
  mr : ∀ g, v.ownBlock = some g → M g
  lw : lo ≤ W.heap.size
structure OrdLt (lo Bl Bo By Bn Bm q : Nat) : Prop where
  hl : Bl < lo
  ho : Bo < lo
  hy : By < lo
  hn : Bn < lo
  hm : Bm < lo
  hq : q < lo
  hlo : Bl ≠ Bo
  hyo : By ≠ Bo
  hno : Bn ≠ Bo
  hmo : Bm ≠ Bo
  hqo : q ≠ Bo
variable {lo n Bl Bo By Bn Bm q L : Nat} {la : Option Addr} {lc : Nat} {R : Nat → List Int} {M : Nat → Prop} {W W' : World} {v : Value} {o : List Int}
theorem cellOf {W W' : World} {b off : Nat} {v : Value} (h : W.cell? ⟨b, off, none⟩ = some v) (hk : W'.heap[b]? = W.heap[b]?) : W'.cell? ⟨b, off, none⟩ = some v := by
  rw [World.cell?_of_block (w := W) hk]; exact h
theorem OrdSt.keep (h : OrdSt lo n Bl Bo By Bn Bm q L la lc R M W v o) (hs : W.heap.size ≤ W'.heap.size) (hk : ∀ k, M k → W'.heap[k]? = W.heap[k]?) : OrdSt lo n Bl Bo By Bn Bm q L la lc R M W' v o where
  mlt := fun k hm => Nat.lt_of_lt_of_le (h.mlt k hm) hs
  bl := cellOf h.bl (hk _ h.ml)
  ml := h.ml
  bo := (hk _ h.mo).trans h.bo
  mo := h.mo
  by_ := cellOf h.by_ (hk _ h.my)
  my := h.my
  bn := cellOf h.bn (hk _ h.mn)
  mn := h.mn
  bm := cellOf h.bm (hk _ h.mm)
  mm := h.mm
  tab := fun k hkn => by
    obtain ⟨a, cap, hc, hi, hb⟩ := h.tab k hkn
    refine ⟨a, cap, cellOf hc (hk _ h.mq), fun j hj => ?_, hb⟩
    obtain ⟨b, off, rfl, hcj⟩ := hi j hj
    obtain ⟨b', off', e, hm, _⟩ := hb j hj
    simp only [Option.some.injEq, Addr.mk.injEq, and_true] at e
    obtain ⟨rfl, rfl⟩ := e
    exact ⟨b, off, rfl, cellOf hcj (hk _ hm)⟩
  mq := h.mq
  row := owns_of_block h.row fun g _ _ hg => hk g (h.mr g hg)
  mr := h.mr
  lw := Nat.le_trans h.lw hs
theorem OrdSt.wide {M' : Nat → Prop} (h : OrdSt lo n Bl Bo By Bn Bm q L la lc R M W v o) (hm : ∀ k, M k → M' k) (hlt : ∀ k, M' k → k < W.heap.size) : OrdSt lo n Bl Bo By Bn Bm q L la lc R M' W v o where
  mlt := hlt
  bl := h.bl
  ml := hm _ h.ml
  bo := h.bo
  mo := hm _ h.mo
  by_ := h.by_
  my := hm _ h.my
  bn := h.bn
  mn := hm _ h.mn
  bm := h.bm
  mm := hm _ h.mm
  tab := fun k hk => by
    obtain ⟨a, cap, hc, hi, hb⟩ := h.tab k hk
    exact ⟨a, cap, hc, hi, fun j hj => by obtain ⟨b, off, e, h1, h2⟩ := hb j hj; exact ⟨b, off, e, hm _ h1, h2⟩⟩
  mq := hm _ h.mq
  row := h.row
  mr := fun g hg => hm _ (h.mr g hg)
  lw := h.lw
/-- The list's row is another one, all else lies as it lay. -/
theorem OrdSt.turn {M' : Nat → Prop} {v' : Value} {o' : List Int} (h : OrdSt lo n Bl Bo By Bn Bm q L la lc R M W v o) (hL : OrdLt lo Bl Bo By Bn Bm q) (hs : W.heap.size ≤ W'.heap.size) (hm : ∀ k, M k → M' k) (hlt : ∀ k, M' k → k < W'.heap.size)
    (hk : ∀ k, k < lo → k ≠ Bo → W'.heap[k]? = W.heap[k]?) (hbo : Boxed W' Bo 25 v') (hrow : W'.ownsRow lo 3 1 v' o'.length (PK.encI o')) (hmr : ∀ g, v'.ownBlock = some g → M' g) : OrdSt lo n Bl Bo By Bn Bm q L la lc R M' W' v' o' where
  mlt := hlt
  bl := cellOf h.bl (hk _ hL.hl hL.hlo)
  ml := hm _ h.ml
  bo := hbo
  mo := hm _ h.mo
  by_ := cellOf h.by_ (hk _ hL.hy hL.hyo)
  my := hm _ h.my
  bn := cellOf h.bn (hk _ hL.hn hL.hno)
  mn := hm _ h.mn
  bm := cellOf h.bm (hk _ hL.hm hL.hmo)
  mm := hm _ h.mm
  tab := fun k hkn => by
    obtain ⟨a, cap, hc, hi, hb⟩ := h.tab k hkn
    refine ⟨a, cap, cellOf hc (hk _ hL.hq hL.hqo), fun j hj => ?_, fun j hj => by obtain ⟨b, off, e, h1, h2⟩ := hb j hj; exact ⟨b, off, e, hm _ h1, h2⟩⟩
    obtain ⟨b, off, rfl, hcj⟩ := hi j hj
    obtain ⟨b', off', e, _, hlo, hne⟩ := hb j hj
    simp only [Option.some.injEq, Addr.mk.injEq, and_true] at e
    obtain ⟨rfl, rfl⟩ := e
    exact ⟨b, off, rfl, cellOf hcj (hk _ hlo hne)⟩
  mq := hm _ h.mq
  row := hrow
  mr := hmr
  lw := Nat.le_trans h.lw hs
theorem owns_cut {w : World} {B e g m cap : Nat} {xs : List Int} {x : Int} (h : w.ownsRow B e 1 (.slice (some ⟨g, 0, none⟩) (m + 1) cap) (xs ++ [x]).length (PK.encI (xs ++ [x]))) : w.ownsRow B e 1 (.slice (some ⟨g, 0, none⟩) m cap) xs.length (PK.encI xs) ∧ m + 1 ≤ cap ∧ cap ≤ maxLen := by
  obtain ⟨hl, ⟨e0, _⟩ | ⟨g', cap', cur, e0, hb, hg, hnc, hm, hcs, ht⟩⟩ := h
  · cases e0
  · simp only [Value.slice.injEq, Option.some.injEq, Addr.mk.injEq, and_true] at e0
    obtain ⟨rfl, e1, rfl⟩ := e0
    rw [List.length_append, List.length_singleton] at e1 hnc ht
    obtain rfl : m = xs.length := by omega
    refine ⟨⟨by simp [PK.encI], .inr ⟨g, cap, cur, rfl, hb, hg, by omega, hm, hcs, ?_⟩⟩, hnc, hm⟩
    have h2 := congrArg (fun L => L.take (xs.length * 1)) ht
    rw [List.take_take, show min (xs.length * 1) ((xs.length + 1) * 1) = xs.length * 1 by omega] at h2
    rw [h2, PK.encI_snoc, List.take_append_of_le_length (by rw [PK.encI_len]; omega), List.take_of_length_le (by rw [PK.encI_len]; omega)]
/-- The orders that begin with o and go on with a number below k. -/
def dfsK (l : List Cd) (r : Nat) (o : List Int) (k : Nat) : List (List Int) := (List.range k).flatMap fun k => if openB l o k = true then dfsL l r (o ++ [(k : Int)]) else []
theorem dfsK_succ (l : List Cd) (r : Nat) (o : List Int) (k : Nat) : dfsK l r o (k + 1) = dfsK l r o k ++ if openB l o k = true then dfsL l r (o ++ [(k : Int)]) else [] := by
  unfold dfsK
  rw [List.range_succ, List.flatMap_append, List.flatMap_cons, List.flatMap_nil, List.append_nil]
theorem openB_any (l : List Cd) (o : List Int) (k : Nat) : openB l o k = !((tabN l k k).any (fun i => !o.contains i) || o.contains (k : Int)) := by
  unfold openB
  rw [Bool.not_or, List.not_any_eq_all_not]
  simp only [Bool.not_not]
/-- A list that is handed on: its value and its numbers. -/
def InO (n : Nat) (x : Value × List Int) (W : World) : Prop := (x.2.length = n ∧ ∀ y, y ∈ x.2 → 0 ≤ y ∧ y < (n : Int)) ∧ ∃ a cap, x.1 = .slice a n cap ∧ IntsIn W a x.2
theorem owns_boxed {w : World} {B e b n : Nat} {v : Value} {xs : List Value} (h : w.ownsRow B e 1 v n xs) (hb : b < B) : some b ≠ v.ownBlock := fun e => by
  have := (owns_block h e.symm).1; omega
/-- Behind an append to the list: the box may be written, and all is as it must be. -/
theorem append_st {J : List (Value × List Int) → (Nat → Prop) → World → Prop} {s : List (Value × List Int)} (hL : OrdLt lo Bl Bo By Bn Bm q) (h : OrdSt lo n Bl Bo By Bn Bm q L la lc R M W v o) (hJ : AbidesMine J) (hj : J s M W) (k : Nat) (v9 : Value) (w9 : World)
    (hown : w9.ownsRow lo 3 1 v9 (o.length + 1) (PK.encI o ++ [.int .i64 (k : Int)])) (hg : (W.alloc (.cells #[.int .i64 (k : Int)] 3)).grownBy w9 v.ownBlock) (hat : v9.ownBlock = v.ownBlock ∨ v9.ownBlock = some (W.alloc (.cells #[.int .i64 (k : Int)] 3)).heap.size) :
    ∃ M10, Boxed w9 Bo 25 v ∧ OrdSt lo n Bl Bo By Bn Bm q L la lc R M10 (w9.setCell ⟨Bo, 0, none⟩ v9) v9 (o ++ [(k : Int)]) ∧ J s M10 (w9.setCell ⟨Bo, 0, none⟩ v9) := by
  have hne := owns_boxed h.row hL.ho
  have hsz : (W.alloc (.cells #[.int .i64 (k : Int)] 3)).heap.size = W.heap.size + 1 := by simp
  have hg9 := hg.size
  have hlw := h.lw
  have hs9 : (w9.setCell ⟨Bo, 0, none⟩ v9).heap.size = w9.heap.size := by simp [World.setCell]
  have hbo := (h.bo.alloc (.cells #[.int .i64 (k : Int)] 3)).kept hg hne
  refine ⟨fun j => M j ∨ (W.heap.size ≤ j ∧ j < w9.heap.size), hbo, ?_, ?_⟩
  · refine h.turn hL (by rw [hs9]; omega) (fun j hm => .inl hm) (fun j hm => ?_) (fun j hj hjb => ?_) (hbo.set v9) ?_ (fun g hgv => ?_)
    · rw [hs9]
      rcases hm with hm | hm
      · have := h.mlt j hm; omega
      · exact hm.2
    · rw [Below.heap_setCell _ _ _ _ hjb, hg.block j (by omega) (owns_boxed h.row hj), heap_past _ _ _ (by omega)]
    · have := hown.kept (grownBy_setCell' w9 Bo v9) (.inr (owns_boxed hown hL.ho).symm)
      rw [List.length_append, PK.encI_snoc]
      exact this
    · rcases hat with e | e
      · exact .inl (h.mr g (e ▸ hgv))
      · rw [e] at hgv
        have hlt := (owns_block hown e).2
        cases hgv
        exact .inr ⟨by omega, hlt⟩
  · have h1 := hJ s M _ _ none hj (World.grownBy_alloc W (.cells #[.int .i64 (k : Int)] 3) none) (fun r e => by cases e) (fun j => M j ∨ j = W.heap.size) (fun j hj => hj.imp id (fun e => by omega))
    have h2 := hJ s _ _ _ _ h1 hg (fun r e => .inl (h.mr r e)) (fun j => M j ∨ (W.heap.size ≤ j ∧ j < w9.heap.size)) (fun j hj => by
      rcases hj with hj | hj
      · exact .inl (.inl hj)
      · by_cases e : j = W.heap.size
        · exact .inl (.inr e)
        · exact .inr (by omega))
    exact hJ s _ _ _ _ h2 (grownBy_setCell' w9 Bo v9) (fun r e => by cases e; exact .inl h.mo) _ (fun j hj => .inl hj)
theorem cut_st {J : List (Value × List Int) → (Nat → Prop) → World → Prop} {s : List (Value × List Int)} {g c : Nat} {x : Int} (hL : OrdLt lo Bl Bo By Bn Bm q) (h : OrdSt lo n Bl Bo By Bn Bm q L la lc R M W (.slice (some ⟨g, 0, none⟩) (o.length + 1) c) (o ++ [x])) (hJ : AbidesMine J) (hj : J s M W) :
    OrdSt lo n Bl Bo By Bn Bm q L la lc R M (W.setCell ⟨Bo, 0, none⟩ (.slice (some ⟨g, 0, none⟩) o.length c)) (.slice (some ⟨g, 0, none⟩) o.length c) o ∧ J s M (W.setCell ⟨Bo, 0, none⟩ (.slice (some ⟨g, 0, none⟩) o.length c)) := by
  have hs : ∀ u, (W.setCell ⟨Bo, 0, none⟩ u).heap.size = W.heap.size := fun u => by simp [World.setCell]
  have hrow := (owns_cut h.row).1
  refine ⟨h.turn hL (by rw [hs]; exact Nat.le_refl _) (fun j hm => hm) (fun j hm => by rw [hs]; exact h.mlt j hm) (fun j _ hjb => Below.heap_setCell _ _ _ _ hjb) (h.bo.set _) ?_ (fun g' e => h.mr g' e), hJ s M W _ _ hj (grownBy_setCell' W Bo _) (fun r e => by cases e; exact h.mo) M (fun j hj => .inl hj)⟩
  exact hrow.kept (grownBy_setCell' W Bo _) (.inr (owns_boxed hrow hL.ho).symm)
theorem grown_of_below {w w' : World} (h : Below w.heap.size w w') : w.grownBy w' none := ⟨h.os, h.tape, h.output, h.size, fun k hk _ => h.block k hk⟩
theorem dfsK_le (l : List Cd) (r : Nat) (o : List Int) : ∀ {k n : Nat}, k ≤ n → (dfsK l r o k).length ≤ (dfsK l r o n).length
  | k, 0, h => by
    obtain rfl : k = 0 := by omega
    exact Nat.le_refl _
  | k, n + 1, h => by
    by_cases e : k = n + 1
    · rw [e]; exact Nat.le_refl _
    · have := dfsK_le l r o (k := k) (n := n) (by omega)
      rw [dfsK_succ, List.length_append]; omega
set_option maxRecDepth 100000 in
set_option maxHeartbeats 4000000 in
theorem more_any (l : List Cd) (hl : l.length ≤ 6) (lo Bl Bo By Bn Bm q L : Nat) (la : Option Addr) (lc : Nat) (hL : OrdLt lo Bl Bo By Bn Bm q) (N n₀ : Nat) (J : List (Value × List Int) → (Nat → Prop) → World → Prop) (hJ : AbidesMine J)
    (hY : ∀ m pre M x W1, J pre M W1 → pre.length < N → InO l.length x W1 → (∀ k, M k → k < W1.heap.size) → YieldAt Fence.wide m Try.prog L #[x.1] W1 fun e W' =>
      e = .returned (.bool true) ∧ J (pre ++ [x]) M W' ∧ (∀ k, M k → W'.heap[k]? = W1.heap[k]?) ∧ Below n₀ W1 W') :
    ∀ (r m : Nat) (pre : List (Value × List Int)) (M : Nat → Prop) (W : World) (v : Value) (o : List Int), o.length + r = l.length → pre.length + (dfsL l r o).length ≤ N → J pre M W → OrdSt lo l.length Bl Bo By Bn Bm q L la lc (fun j => tabN l j j) M W v o → (∀ y, y ∈ o → 0 ≤ y ∧ y < (l.length : Int)) →
      CallsIn Fence.wide m Try.prog 92 #[.pointer (some ⟨Bo, 0, none⟩), .pointer (some ⟨Bl, 0, none⟩), .pointer (some ⟨By, 0, none⟩), .pointer (some ⟨Bn, 0, none⟩), .pointer (some ⟨Bm, 0, none⟩)] W fun e W' =>
        e = .returned (.bool true) ∧ ∃ xs M' v', xs.map (·.2) = dfsL l r o ∧ J (pre ++ xs) M' W' ∧ OrdSt lo l.length Bl Bo By Bn Bm q L la lc (fun j => tabN l j j) M' W' v' o := by
  intro r
  induction r with
  | zero =>
    intro m pre M W v o hr hN hj hst hoy
    have hol : o.length = l.length := by omega
    obtain ⟨va, vc, rfl, hvc, hvi⟩ := ints_of_owns hst.row
    have c0 := hst.bo.cell
    have c1 := hst.bl
    have c2 := hst.by_
    rw [hol] at c0
    have HSt := Lib.hid hst
    obtain ⟨fn, tmps, assign, body, hy, hR⟩ := hY (m - 1) pre M (.slice va l.length vc, o) W hj (by simp [dfsL] at hN; omega) ⟨⟨hol, hoy⟩, va, vc, rfl, hvi⟩ hst.mlt
    have HN := Lib.hid hol
    clear hst hY hN hj hvi hvc hr hol hoy
    generalize l.length = n at *
    refine callsIn_of_wp Try.func92 rfl trivial ?_ rfl
    simp only [Try.ntmps92, List.size_toArray, List.length_cons, List.length_nil, Nat.reduceAdd, Nat.reduceSub, Array.replicate_succ, Array.replicate_zero, List.push_toArray, List.append_toArray, List.nil_append, List.cons_append]
    gi_wp2
    refine ⟨fun h => (by cases h), ?_⟩
    refine hR.mono ?_
    rintro e W3 ⟨rfl, hJ3, hM3, hB3⟩
    gi_wp2
    go_ret
    exact ⟨rfl, [_], _, _, rfl, hJ3, HSt.out.keep hB3.size hM3⟩
  | succ r ih =>
    intro m pre M W v o hr hN hj hst hoy
    have hne : ((o.length : Int) == (l.length : Int)) = false := by rw [beq_eq_false_iff_ne]; omega
    have hol : o.length ≤ 6 := by omega
    obtain ⟨va, vc, rfl, hvc, hvi⟩ := ints_of_owns hst.row
    have c0 := hst.bo.cell
    have c1 := hst.bl
    have HSt := Lib.hid hst; have HJ0 := Lib.hid hj
    have HIh := Lib.hid ih; have HJ := Lib.hid hJ
    have HN : Hid (pre.length + (dfsK l r o l.length).length ≤ N) := Lib.hid hN
    have HR := Lib.hid hr; have HOy := Lib.hid hoy
    clear hst hY hN hj hvi hvc hr ih hJ hoy
    refine callsIn_of_wp Try.func92 rfl trivial ?_ rfl
    simp only [Try.ntmps92, List.size_toArray, List.length_cons, List.length_nil, Nat.reduceAdd, Nat.reduceSub, Array.replicate_succ, Array.replicate_zero, List.push_toArray, List.append_toArray, List.nil_append, List.cons_append]
    gi_wp2_with fail
    gi_loopw [18] (fun i wr => ∃ k : Nat, k ≤ l.length ∧ i = .int .i64 k ∧ ∃ xs M' v', xs.map (·.2) = dfsK l r o k ∧ J (pre ++ xs) M' wr ∧ OrdSt lo l.length Bl Bo By Bn Bm q L la lc (fun j => tabN l j j) M' wr v' o) (fun i _ => l.length - (intOf i).toNat)
    case atStart => exact ⟨0, Nat.zero_le _, rfl, [], M, _, rfl, by rw [List.append_nil]; exact HJ0.out, HSt.out⟩
    case round =>
      obtain ⟨k, hk, rfl, xs, M1, v1, hxs, hj1, hst1⟩ := hrel
      by_cases hlt : k < l.length
      · have hki : (k : Int) < (l.length : Int) := by omega
        have hk0 : (0 : Int) ≤ (k : Int) := by omega
        obtain ⟨va1, vc1, rfl, hvc1, hvi1⟩ := ints_of_owns hst1.row
        obtain ⟨a, cap, c3, hi3, _⟩ := hst1.tab k hlt
        have d0 := hst1.bo.cell; have d1 := hst1.bl; have dn := hst1.bn; have dm := hst1.bm
        have HC := Lib.hid (conI_any 94 #[.pointer (some ⟨Bo, 0, none⟩)] (fun _ _ => rfl) (fun i => !o.contains i) (tabN l k k) a cap wr hi3 (by have := tabN_len l k k; omega) (fun j W' _ hb => notIn_any Bo o va1 vc1 _ W' (keep d0 hb) (hvi1.below hb) (by omega)))
        have HO := Lib.hid (openB_any l o k)
        have HKs := Lib.hid (dfsK_succ l r o k)
        have HSt1 := Lib.hid hst1; have HJ1 := Lib.hid hj1; have HXs := Lib.hid hxs
        clear hst1 hj1 hxs hi3 hvc1
        generalize openB l o k = ob at *
        generalize (tabN l k k).any (fun i => !o.contains i) = b1 at *
        generalize (tabN l k k).length = tn at *
        gi_wp2_with fail
        refine ⟨trivial, fun h => (by cases h), ?_⟩
        refine (callsIn_wide.2 HC.out).mono ?_; rintro e w2 ⟨rfl, hb2⟩
        have HSt2 := Lib.hid (HSt1.out.keep hb2.size (fun k hm => hb2.block k (HSt1.out.mlt k hm)))
        have HJ2 := Lib.hid (HJ.out _ M1 _ _ none HJ1.out (grown_of_below hb2) (fun r e => by cases e) M1 (fun k h => .inl h))
        have d0 := HSt2.out.bo.cell; have d1 := HSt2.out.bl; have dn := HSt2.out.bn; have dm := HSt2.out.bm
        obtain ⟨_, _, hv1e, _, hvi2⟩ := ints_of_owns HSt2.out.row
        simp only [Value.slice.injEq, true_and] at hv1e
        obtain ⟨rfl, rfl⟩ := hv1e
        have HCt := Lib.hid (fun r hr => contains_is (r := r) (x := (k : Int)) hr hvi2 (cap := vc1) (by omega))
        clear hb2 hvi2 hvi1 HC c3 HSt1 HJ1
        cases b1
        · generalize hb2 : o.contains (k : Int) = b2 at *
          have HCt := Lib.hid (HCt.out b2 rfl)
          clear hb2
          cases b2
          · have hob : ob = true := by rw [HO.out]; rfl
            subst hob
            gi_wp2_with fail
            refine ⟨trivial, fun h => (by cases h), ?_⟩
            refine (callsIn_wide.2 HCt.out).mono ?_; rintro e w3 ⟨rfl, rfl⟩
            have HA := Lib.hid (append_st hL HSt2.out HJ.out HJ2.out k)
            have HNw := Lib.hid (cell_one_new w2 (.int .i64 (k : Int)) 3)
            have HOw := Lib.hid (HSt2.out.row.alloc (.cells #[.int .i64 (k : Int)] 3))
            have HLw := HSt2.out.lw
            have HZ3 : Hid (lo ≤ (w2.alloc (.cells #[.int .i64 (k : Int)] 3)).heap.size) := Lib.hid (by simp; omega)
            have hb1 : Hid (o.length + 1 ≤ maxLen) := Lib.hid (by unfold maxLen; omega)
            have hb2 : Hid ((o.length + 1) * 8 ≤ 140737488355328) := Lib.hid (by omega)
            obtain ⟨i0, hi, ip0, ip1, ip2⟩ := info_parts Try.infoInt
            gi_wp2_with (gi_at_builtin; refine wpListIn_append_own_at _ rfl _ _ 25 rfl lo 3 i0 (.int .i64 0) 1 8 Try.underlying25 hi ip0 ip1 ip2 rfl (by decide) _ _ _ rfl HOw.out ⟨w2.heap.size, 0, none⟩ 1 1 [.int .i64 (k : Int)] rfl rfl HNw.out (one_int _) hb1.out hb2.out HZ3.out ?_; intro v9 w9 hown9 hgrow9 hat9; obtain ⟨g9, c9, rfl⟩ := ownsRow_succ hown9; obtain ⟨M10, hbx9, hst10, hj10⟩ := HA.out _ _ hown9 hgrow9 hat9; have HSt10 := Lib.hid hst10; have HJ10 := Lib.hid hj10; have e9 := hbx9.cell; have f9 := hbx9.frozen; have dm10 := hst10.bm; clear hown9 hgrow9 hat9 hbx9 hst10 hj10)
            refine ⟨trivial, fun h => (by cases h), ?_⟩
            have hle := dfsK_le l r o (k := k + 1) (n := l.length) (by omega)
            have hN := HN.out
            have hxl : xs.length = (dfsK l r o k).length := by rw [← HXs.out, List.length_map]
            have hks : (dfsK l r o (k + 1)).length = (dfsK l r o k).length + (dfsL l r (o ++ [(k : Int)])).length := by rw [HKs.out]; simp
            refine (HIh.out (m - 1) (pre ++ xs) M10 _ _ (o ++ [(k : Int)]) (by rw [List.length_append, List.length_singleton]; have := HR.out; omega) (by rw [List.length_append]; omega) HJ10.out HSt10.out (fun y hy => by
              rw [List.mem_append, List.mem_singleton] at hy
              rcases hy with hy | rfl
              · exact HOy.out y hy
              · exact ⟨by omega, by omega⟩)).mono ?_
            rintro e w11 ⟨rfl, xs', M11, v11, hxs', hj11, hst11⟩
            clear hle hN hxl hks HSt10 HJ10 HA HNw HOw HZ3
            have hrow11 := hst11.row
            rw [List.length_append, List.length_singleton] at hrow11
            obtain ⟨g11, c11, rfl⟩ := ownsRow_succ hrow11
            obtain ⟨_, hc11, hm11⟩ := owns_cut hst11.row
            have HCut := Lib.hid (cut_st hL hst11 HJ.out hj11)
            have e11 := hst11.bo.cell
            have f11 := hst11.bo.frozen
            have HXs' := Lib.hid hxs'
            clear hxs' hj11 hst11 hrow11
            gi_wp2_with fail
            go_roundw
            case rel => exact ⟨k + 1, by omega, by go_num, xs ++ xs', M11, _, by rw [List.map_append, HKs.out, HXs.out, HXs'.out]; simp, by rw [← List.append_assoc]; exact HCut.out.2, HCut.out.1⟩
            case measure => simp [intOf]; omega
          · have hob : ob = false := by rw [HO.out]; rfl
            subst hob
            gi_wp2_with fail
            refine ⟨trivial, fun h => (by cases h), ?_⟩
            refine (callsIn_wide.2 HCt.out).mono ?_; rintro e w3 ⟨rfl, rfl⟩
            gi_wp2_with fail
            go_roundw
            case rel => exact ⟨k + 1, by omega, by go_num, xs, M1, _, by rw [HKs.out, HXs.out]; simp, HJ2.out, HSt2.out⟩
            case measure => simp [intOf]; omega
        · have hob : ob = false := by rw [HO.out]; rfl
          subst hob
          gi_wp2_with fail
          refine ⟨trivial, ?_⟩
          gi_wp2_with fail
          go_roundw
          case rel => exact ⟨k + 1, by omega, by go_num, xs, M1, _, by rw [HKs.out, HXs.out]; simp, HJ2.out, HSt2.out⟩
          case measure => simp [intOf]; omega
      · obtain rfl : k = l.length := by omega
        have HSt1 := Lib.hid hst1; have HJ1 := Lib.hid hj1; have HXs := Lib.hid hxs
        have d1 := hst1.bl
        clear hst1 hj1 hxs
        gi_wp2_with fail
        go_ret
        exact ⟨rfl, xs, M1, v1, HXs.out, HJ1.out, HSt1.out⟩
end Go.Proofs.Ytccpjfppkahbmaa
