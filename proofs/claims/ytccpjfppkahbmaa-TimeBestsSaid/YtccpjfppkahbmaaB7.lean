/- The walks of the specification's orders and numbers. -/
import Derived.Test.YtccpjfppkahbmaaB6
import Derived.Test.YtccpjfppkahbmaaH1
import Derived.Deep.RegionHeld3
import Derived.Deep.MidRow
import Derived.IntWalk
namespace Go.Proofs.Ytccpjfppkahbmaa
open Go.RowKit PK

/-- The values of a row are these rows of numbers, and lie in other blocks. -/
def RowsAre (w : World) (base : Nat) (row : Option Nat) (L : List (List Int)) (vals : List Value) : Prop :=
  ∀ k, k < L.length → ∃ a cap, vals[k]? = some (.slice a (L.getD k []).length cap) ∧ (L.getD k []).length ≤ cap ∧ (a = none → cap = 0) ∧ IntsIn w a (L.getD k []) ∧ ∀ b off, a = some ⟨b, off, none⟩ → base ≤ b ∧ b < w.heap.size ∧ some b ≠ row
/-- Rows of numbers in a row of the call's own. -/
def RowsOwn (w : World) (base : Nat) (v : Value) (L : List (List Int)) : Prop := ∃ vals, w.ownsRow base 25 1 v L.length vals ∧ RowsAre w base v.ownBlock L vals
theorem RowsOwn.nil (w : World) (base : Nat) : RowsOwn w base (.slice none 0 0) [] := ⟨[], owns_nil _ _ _ _, fun _ hk => absurd hk (Nat.not_lt_zero _)⟩
theorem RowsOwn.shape {w : World} {base : Nat} {v : Value} {L : List (List Int)} (h : RowsOwn w base v L) : ∃ a cap, v = .slice a L.length cap := by
  obtain ⟨vals, ho, _⟩ := h
  exact owns_shape ho
theorem RowsAre.below {w w' : World} {base : Nat} {row : Option Nat} {L : List (List Int)} {vals : List Value} (h : RowsAre w base row L vals) (hb : Below w.heap.size w w') : RowsAre w' base row L vals := fun k hk => by
  obtain ⟨a, cap, h1, h2, h0, h3, h4⟩ := h k hk
  exact ⟨a, cap, h1, h2, h0, h3.below hb, fun b off e => ⟨(h4 b off e).1, Nat.lt_of_lt_of_le (h4 b off e).2.1 hb.size, (h4 b off e).2.2⟩⟩
theorem RowsOwn.below {w w' : World} {base : Nat} {v : Value} {L : List (List Int)} (h : RowsOwn w base v L) (hb : Below w.heap.size w w') : RowsOwn w' base v L := by
  obtain ⟨vals, ho, hr⟩ := h
  exact ⟨vals, owns_below ho hb, hr.below hb⟩
theorem RowsOwn.base {w : World} {base base' : Nat} {v : Value} {L : List (List Int)} (h : RowsOwn w base v L) (hb : base' ≤ base) : RowsOwn w base' v L := by
  obtain ⟨vals, ho, hr⟩ := h
  refine ⟨vals, owns_base ho hb, fun k hk => ?_⟩
  obtain ⟨a, cap, h1, h2, h0, h3, h4⟩ := hr k hk
  exact ⟨a, cap, h1, h2, h0, h3, fun b off e => ⟨Nat.le_trans hb (h4 b off e).1, (h4 b off e).2⟩⟩
/-- The same rows, with the blocks between which they lie. -/
def RowsBet (w : World) (lo hi : Nat) (v : Value) (L : List (List Int)) : Prop :=
  ∀ k, k < L.length → ∃ g c a cap, v = .slice (some ⟨g, 0, none⟩) L.length c ∧ lo ≤ g ∧ g < hi ∧ w.cell? ⟨g, k, none⟩ = some (.slice a (L.getD k []).length cap) ∧ (L.getD k []).length ≤ cap ∧ (a = none → cap = 0) ∧ IntsIn w a (L.getD k []) ∧ ∀ b off, a = some ⟨b, off, none⟩ → lo ≤ b ∧ b < hi
theorem RowsOwn.bet {w : World} {base : Nat} {v : Value} {L : List (List Int)} (h : RowsOwn w base v L) : RowsBet w base w.heap.size v L := fun k hk => by
  obtain ⟨vals, ho, hr⟩ := h
  obtain ⟨a, cap, h1, h2, h0, h3, h4⟩ := hr k hk
  obtain ⟨g, c, rfl, _, _, hg, hg2, hc, _⟩ := owns_cells ho (by omega)
  exact ⟨g, c, a, cap, rfl, hg, hg2, hc _ _ h1, h2, h0, h3, fun b off e => ⟨(h4 b off e).1, (h4 b off e).2.1⟩⟩
theorem RowsBet.keep {w w' : World} {lo hi : Nat} {v : Value} {L : List (List Int)} (h : RowsBet w lo hi v L) (hk : ∀ b, lo ≤ b → b < hi → w'.heap[b]? = w.heap[b]?) : RowsBet w' lo hi v L := fun k hkl => by
  obtain ⟨g, c, a, cap, e, h1, h2, h3, h4, h0, h5, h6⟩ := h k hkl
  refine ⟨g, c, a, cap, e, h1, h2, cellOf h3 (hk g h1 h2), h4, h0, fun j hj => ?_, h6⟩
  obtain ⟨b, off, rfl, hc⟩ := h5 j hj
  obtain ⟨h7, h8⟩ := h6 b off rfl
  exact ⟨b, off, rfl, cellOf hc (hk b h7 h8)⟩
/-- One row more. -/
theorem RowsOwn.snoc {w w' : World} {base : Nat} {v v' : Value} {L : List (List Int)} {a : Option Addr} {cap : Nat} {xs : List Int} {vals : List Value} (hl : vals.length = L.length) (h : RowsAre w base v.ownBlock L vals) (ho : w'.ownsRow base 25 1 v' (L.length + 1) (vals ++ [.slice a xs.length cap])) (hg : w.grownBy w' v.ownBlock)
    (hat : v'.ownBlock = v.ownBlock ∨ v'.ownBlock = some w.heap.size) (hx : IntsIn w a xs) (hcap : xs.length ≤ cap) (h0 : a = none → cap = 0) (hxb : ∀ b off, a = some ⟨b, off, none⟩ → base ≤ b ∧ b < w.heap.size ∧ some b ≠ v.ownBlock) : RowsOwn w' base v' (L ++ [xs]) := by
  have hkeep : ∀ (b : Option Addr) (ys : List Int), IntsIn w b ys → (∀ c off, b = some ⟨c, off, none⟩ → base ≤ c ∧ c < w.heap.size ∧ some c ≠ v.ownBlock) → IntsIn w' b ys := fun b ys hi hb k hk => by
    obtain ⟨c, off, rfl, hc⟩ := hi k hk
    exact ⟨c, off, rfl, cell_kept hc hg (hb c off rfl).2.2⟩
  have hnew : ∀ c, base ≤ c ∧ c < w.heap.size ∧ some c ≠ v.ownBlock → base ≤ c ∧ c < w'.heap.size ∧ some c ≠ v'.ownBlock := fun c ⟨h3, h1, h2⟩ => ⟨h3, Nat.lt_of_lt_of_le h1 hg.size, fun e => by
    rcases hat with h3 | h3
    · rw [h3] at e; exact h2 e
    · rw [h3] at e; cases e; omega⟩
  refine ⟨vals ++ [.slice a xs.length cap], by rw [List.length_append]; exact ho, fun k hk => ?_⟩
  rw [List.length_append, List.length_singleton] at hk
  by_cases e : k < L.length
  · obtain ⟨b, c, h1, h2, h00, h3, h4⟩ := h k e
    have el : (L ++ [xs]).getD k [] = L.getD k [] := by rw [List.getD_eq_getElem?_getD, List.getD_eq_getElem?_getD, List.getElem?_append_left e]
    rw [el]
    refine ⟨b, c, ?_, h2, h00, hkeep b _ h3 h4, fun d off ed => hnew d (h4 d off ed)⟩
    rw [List.getElem?_append_left (by rw [hl]; exact e)]; exact h1
  · obtain rfl : k = L.length := by omega
    have el : (L ++ [xs]).getD L.length [] = xs := by simp [List.getD_eq_getElem?_getD]
    rw [el]
    refine ⟨a, cap, ?_, hcap, h0, hkeep a xs hx hxb, fun c off ec => hnew c (hxb c off ec)⟩
    rw [← hl, List.getElem?_append_right (Nat.le_refl _)]
    simp
/-- The lists that begin with one of the first i numbers. -/
def permsK (r : Nat) (l : List Int) (i : Nat) : List (List Int) := (List.range i).flatMap fun i => (permsL r (l.eraseIdx i)).map fun p => l.getD i 0 :: p
theorem permsK_succ (r : Nat) (l : List Int) (i : Nat) : permsK r l (i + 1) = permsK r l i ++ (permsL r (l.eraseIdx i)).map fun p => l.getD i 0 :: p := by
  unfold permsK
  rw [List.range_succ, List.flatMap_append, List.flatMap_cons, List.flatMap_nil, List.append_nil]
theorem permsL_pow : ∀ (r : Nat) (l : List Int), l.length = r → r ≤ 6 → (permsL r l).length ≤ 6 ^ r
  | 0, l, _, _ => by simp [permsL]
  | r + 1, l, hl, h6 => by
    have := flatMap_le (fun i : Nat => (permsL r (l.eraseIdx i)).map fun p => l.getD i 0 :: p) (6 ^ r) (List.range l.length) (fun i hi => by
      have hi := List.mem_range.1 hi
      rw [List.length_map]
      exact permsL_pow r _ (by rw [List.length_eraseIdx, if_pos hi]; omega) (by omega))
    rw [List.length_range] at this
    have h2 : l.length * 6 ^ r ≤ 6 * 6 ^ r := Nat.mul_le_mul_right _ (by omega)
    rw [Nat.pow_succ, Nat.mul_comm]
    exact Nat.le_trans this h2
theorem permsL_small {r : Nat} {l : List Int} (hl : l.length = r) (h6 : r ≤ 6) : (permsL r l).length ≤ 46656 :=
  Nat.le_trans (permsL_pow r l hl h6) (Nat.le_trans (Nat.pow_le_pow_right (by omega) h6) (by decide))
theorem permsK_small {r : Nat} {l : List Int} (hl : l.length = r + 1) (h6 : r + 1 ≤ 6) : ∀ {i : Nat}, i ≤ l.length → (permsK r l i).length ≤ 46656 * i
  | 0, _ => by simp [permsK]
  | i + 1, h => by
    have h1 := permsK_small hl h6 (i := i) (by omega)
    have h2 := permsL_small (r := r) (l := l.eraseIdx i) (by rw [List.length_eraseIdx, if_pos (by omega)]; omega) (by omega)
    rw [permsK_succ, List.length_append, List.length_map]
    omega
/-- append, at the walk of a region that draws its order; the block is the old one or a new one. -/
theorem step_append_at {P : Program} {ops : Array Oper} {o : Oper} {a : Act} {w : World} {K : Act → World → Prop} {Q : Exit → Act → World → Prop} {E : Prop}
    (hg : o.guard = none) (s x : Operand) (t : TypeId) (hop : o.op = Op.call { callee := Callee.builtin Builtin.append, args := #[s, x], argTypes := #[t, t] })
    (base : Nat) (e : TypeId) (i : TypeInfo) (z : Value) (size bytes : Nat) (h1 : P.underlying t = some (.slice e)) (h2 : P.info? e = some i) (h3 : i.zero = some z) (h4 : i.size = size) (h5 : i.bytes = bytes) (h6 : z.cells.size = size) (h7 : 0 < size)
    (v : Value) (n : Nat) (xs : List Value) (hs : a.eval s = v) (hown : w.ownsRow base e size v n xs)
    (ad : Addr) (m c : Nat) (news : List Value) (hx : a.eval x = .slice (some ad) m c) (hn : news.length = m * size) (hc : ∀ j u, news[j]? = some u → w.cell? (ad.add j) = some u) (h1c : ∀ u ∈ news, u.oneCell' = true)
    (b1 : n + m ≤ maxLen) (b2 : (n + m) * bytes ≤ 140737488355328) (hbase : base ≤ w.heap.size)
    (hK : ∀ v' w', w'.ownsRow base e size v' (n + m) (xs ++ news) → w.grownBy w' v.ownBlock → (v'.ownBlock = v.ownBlock ∨ v'.ownBlock = some w.heap.size) → K (a.put o.dst v') w') :
    if Region.wanted o (yielded ops a.tmps) = true then Oper.wp P o a w K Q else E := by
  have hw : Region.wanted o (yielded ops a.tmps) = true := by simp [Region.wanted, hg]
  rw [if_pos hw]
  obtain ⟨v', w', hrun, r1, r2, _, r4⟩ := run_append_own_at (P := P) w base t o.type e i z size bytes h1 h2 h3 h4 h5 h6 h7 v n xs hown ad m c news hn hc h1c b1 b2 hbase
  unfold Oper.wp
  simp [execOp, hop, resolve, invoke, builtin, hs, hx, hrun, Result.andThen]
  exact hK v' w' r1 r2 r4
/-- append of numbers that may be nil. -/
theorem step_append_ints {ops : Array Oper} {o : Oper} {a : Act} {w : World} {K : Act → World → Prop} {Q : Exit → Act → World → Prop} {E : Prop}
    (hg : o.guard = none) (s x : Operand) (hop : o.op = Op.call { callee := Callee.builtin Builtin.append, args := #[s, x], argTypes := #[25, 25] })
    (base : Nat) (v : Value) (n : Nat) (ys : List Value) (hs : a.eval s = v) (hown : w.ownsRow base 3 1 v n ys)
    (ad : Option Addr) (c : Nat) (xs : List Int) (hx : a.eval x = .slice ad xs.length c) (hin : IntsIn w ad xs) (h0 : ad = none → c = 0)
    (b1 : n + xs.length ≤ maxLen) (b2 : (n + xs.length) * 8 ≤ 140737488355328) (hbase : base ≤ w.heap.size)
    (hK : ∀ v' w', w'.ownsRow base 3 1 v' (n + xs.length) (ys ++ PK.encI xs) → w.grownBy w' v.ownBlock → (v'.ownBlock = v.ownBlock ∨ v'.ownBlock = some w.heap.size) → K (a.put o.dst v') w') :
    if Region.wanted o (yielded ops a.tmps) = true then Oper.wp Try.prog o a w K Q else E := by
  obtain ⟨i0, hi, ip0, ip1, ip2⟩ := info_parts Try.infoInt
  cases ad with
  | none =>
    have hxs : xs = [] := by
      rcases xs with _ | ⟨y, ys⟩
      · rfl
      · obtain ⟨b, off, e, _⟩ := hin 0 (by simp)
        cases e
    subst hxs
    obtain rfl := h0 rfl
    have hw : Region.wanted o (yielded ops a.tmps) = true := by simp [Region.wanted, hg]
    rw [if_pos hw]
    have hrun := run_append_owned_none (P := Try.prog) (w := w) base 25 o.type 3 i0 1 Try.underlying25 hi v n ys hown
    have hx' : a.eval x = .slice none 0 0 := hx
    unfold Oper.wp
    simp [execOp, hop, resolve, invoke, builtin, hs, hx', hrun, Result.andThen]
    exact hK v w (by simpa [PK.encI] using hown) ⟨rfl, rfl, rfl, Nat.le_refl _, fun _ _ _ => rfl⟩ (.inl rfl)
  | some ad =>
    refine step_append_at hg s x 25 hop base 3 i0 (.int .i64 0) 1 8 Try.underlying25 hi ip0 ip1 ip2 rfl (by decide) v n ys hs hown ad xs.length c (PK.encI xs) hx (by rw [PK.encI_len, Nat.mul_one]) ?_ (PK.encI_one _) b1 b2 hbase hK
    intro j u hj
    have hjl : j < xs.length := by rw [← PK.encI_len xs]; exact (List.getElem?_eq_some_iff.1 hj).1
    obtain ⟨b', o', e, hc⟩ := hin j hjl
    cases e
    rw [PK.encI_get hjl] at hj
    rw [show (⟨b', o', none⟩ : Addr).add j = ⟨b', o' + j, none⟩ by unfold Addr.add; simp, hc, hj]
set_option maxRecDepth 100000 in
set_option maxHeartbeats 4000000 in
theorem rNumbers_any (n : Nat) (hn : n ≤ 100) (w : World) :
    Calls Try.prog 59 #[.int .i64 (n : Int)] w fun e w' => (∃ v, e = .returned v ∧ w'.ownsRow w.heap.size 3 1 v (iota n).length (PK.encI (iota n))) ∧ Below w.heap.size w w' := by
  obtain ⟨i0, hi, ip0, ip1, ip2⟩ := info_parts Try.infoInt
  go_enter Try.func59, Try.ntmps59
  go_wp2_with fail
  go_loopw [3, 4] (fun v i wr => ∃ k : Nat, k ≤ n ∧ i = .int .i64 k ∧ wr.ownsRow w.heap.size 3 1 v (iota k).length (PK.encI (iota k)) ∧ Below w.heap.size w wr) (fun _ i _ => n - (intOf i).toNat)
  case atStart => exact ⟨0, Nat.zero_le _, rfl, owns_nil _ _ _ _, Below.refl _ _⟩
  case round =>
    obtain ⟨k, hk, rfl, ho, hb⟩ := hrel
    by_cases hlt : k < n
    · have hki : (k : Int) < (n : Int) := by omega
      have HIo : Hid (iota (k + 1) = iota k ++ [(k : Int)]) := Lib.hid (by unfold iota; rw [List.range_succ, List.map_append]; rfl)
      have HO2 := Lib.hid ho; have HB2 := Lib.hid hb
      have hlen := iota_len k
      clear ho hb
      generalize hE1 : iota (k + 1) = E1 at *
      have HE1 := Lib.hid hE1; clear hE1
      generalize iota k = E at *
      have HN6 := Lib.hid (cell_one_at wr (.int .i64 (k : Int)) 3)
      have HO6 := Lib.hid (HO2.out.alloc (.cells #[.int .i64 (k : Int)] 3))
      have HB6 := Lib.hid (HB2.out.alloc HB2.out.size (.cells #[.int .i64 (k : Int)] 3))
      have HG5 := Lib.hid (fun g hg => owns_block HO2.out (g := g) hg)
      have HS63 : Hid (E.length + 1 ≤ maxLen) := Lib.hid (by unfold maxLen; omega)
      have HSb : Hid ((E.length + 1) * 8 ≤ 140737488355328) := Lib.hid (by omega)
      have HLen := Lib.hid hlen; clear hlen
      go_wp2_with (first | (at_builtin; refine wpList_append_own_at _ rfl _ _ 25 rfl w.heap.size 3 i0 (.int .i64 0) 1 8 Try.underlying25 hi ip0 ip1 ip2 rfl (by decide) _ _ _ rfl HO6.out ⟨wr.heap.size, 0, none⟩ 1 1 [.int .i64 (k : Int)] rfl rfl HN6.out (one_int _) HS63.out HSb.out HB6.out.size ?_; intro v9 w9 hown9 hgrow9 _ hat9; have HB9 := Lib.hid (HB6.out.grown hgrow9 HB6.out.size (fun g hg => (HG5.out g hg).1)); have HO9 := Lib.hid hown9; clear hown9 hgrow9 hat9))
      go_roundw
      case rel => exact ⟨k + 1, by omega, by go_num, by rw [HE1.out, HIo.out, List.length_append, encI_snoc]; exact HO9.out, HB9.out⟩
      case measure => simp [intOf]; omega
    · obtain rfl : k = n := by omega
      have HO2 := Lib.hid ho; have HB2 := Lib.hid hb
      clear ho hb
      go_wp2_with fail
      go_ret
      exact ⟨⟨_, rfl, HO2.out⟩, HB2.out⟩
theorem addr_at (b off j : Nat) : (⟨b, off, none⟩ : Addr).add j = ⟨b, off + j, none⟩ := by unfold Addr.add; simp
theorem ints_at {w : World} {b off : Nat} {xs : List Int} (h : IntsIn w (some ⟨b, off, none⟩) xs) : ∀ j u, (PK.encI xs)[j]? = some u → w.cell? ((⟨b, off, none⟩ : Addr).add j) = some u := fun j u hj => by
  have hjl : j < xs.length := by rw [← PK.encI_len xs]; exact (List.getElem?_eq_some_iff.1 hj).1
  obtain ⟨b', o', e, hc⟩ := h j hjl
  simp only [Option.some.injEq, Addr.mk.injEq, and_true] at e
  obtain ⟨rfl, rfl⟩ := e
  rw [PK.encI_get hjl] at hj
  rw [addr_at, hc, hj]
theorem ints_drop {w : World} {b off : Nat} {xs : List Int} (h : IntsIn w (some ⟨b, off, none⟩) xs) (n : Nat) : IntsIn w (some ⟨b, off + n, none⟩) (xs.drop n) := fun k hk => by
  rw [List.length_drop] at hk
  obtain ⟨b', o', e, hc⟩ := h (n + k) (by omega)
  simp only [Option.some.injEq, Addr.mk.injEq, and_true] at e
  obtain ⟨rfl, rfl⟩ := e
  refine ⟨b, off + n, rfl, ?_⟩
  rw [Nat.add_assoc, hc, List.getD_eq_getElem?_getD, List.getD_eq_getElem?_getD, List.getElem?_drop]
theorem drop_none {w : World} {b off n : Nat} {xs : List Int} (h : xs.length ≤ n) : ∀ j u, (PK.encI (xs.drop n))[j]? = some u → w.cell? ((⟨b, off, none⟩ : Addr).add j) = some u := fun j u hj => by
  rw [List.drop_eq_nil_of_le h] at hj
  cases hj
theorem owns_erase {w : World} {B : Nat} {v : Value} {l : List Int} {k : Nat} (hk : k < l.length) (h : w.ownsRow B 3 1 v (k + (l.length - (k + 1))) (PK.encI (l.take k) ++ PK.encI (l.drop (k + 1)))) : w.ownsRow B 3 1 v (l.eraseIdx k).length (PK.encI (l.eraseIdx k)) := by
  have e : (l.eraseIdx k).length = k + (l.length - (k + 1)) := by rw [List.length_eraseIdx, if_pos hk]; omega
  rw [e, List.eraseIdx_eq_take_drop_succ]
  unfold PK.encI at *
  rw [List.map_append]
  exact h
theorem owns_cap {w : World} {B e s n m c : Nat} {a : Option Addr} {xs : List Value} (h : w.ownsRow B e s (.slice a m c) n xs) : c ≤ maxLen := by
  obtain ⟨_, ⟨h1, _⟩ | ⟨g, cap, cur, h1, _, _, _, hm, _⟩⟩ := h
  · simp only [Value.slice.injEq] at h1
    rw [h1.2.2]; exact Nat.zero_le _
  · simp only [Value.slice.injEq] at h1
    rw [h1.2.2]; exact hm
theorem below_made {w w' : World} {o : Obj} (h : (w.alloc o).drew.grownBy w' (some w.heap.size)) : Below w.heap.size w w' :=
  ⟨h.os, h.tape, h.output, Nat.le_trans (by simp [World.drew]) h.size, fun k hk => (h.block k (by simp [World.drew]; omega) (by simp; omega)).trans (heap_past w o k hk)⟩
theorem owns_none (w : World) (t : TypeId) : (w.alloc (.cells #[] t)).ownsRow w.heap.size t 1 (.slice (some ⟨w.heap.size, 0, none⟩) 0 0) 0 [] := by
  refine ⟨rfl, .inr ⟨w.heap.size, 0, #[], rfl, Nat.le_refl _, ?_, Nat.le_refl _, Nat.zero_le _, rfl, rfl⟩⟩
  exact World.alloc_heap_new _ _
theorem owns_single (w : World) (t : TypeId) (x : Value) : (w.alloc (.cells #[x] t)).ownsRow w.heap.size t 1 (.slice (some ⟨w.heap.size, 0, none⟩) 1 1) 1 [x] := by
  refine ⟨rfl, .inr ⟨w.heap.size, 1, #[x], rfl, Nat.le_refl _, ?_, Nat.le_refl _, by unfold maxLen; omega, rfl, rfl⟩⟩
  exact World.alloc_heap_new _ _
set_option maxRecDepth 100000 in
set_option maxHeartbeats 4000000 in
theorem rOrders_any : ∀ (r : Nat) (l : List Int) (a : Option Addr) (cap : Nat) (w : World), l.length = r → r ≤ 6 → IntsIn w a l → l.length ≤ cap → cap ≤ maxLen →
    Calls Try.prog 58 #[.slice a l.length cap] w fun e w' => (∃ v, e = .returned v ∧ RowsOwn w' w.heap.size v (permsL r l)) ∧ Below w.heap.size w w' := by
  intro r
  induction r with
  | zero =>
    intro l a cap w hl _ _ _ _
    rw [hl]
    have HP : Hid (∀ l, permsL 0 l = [[]]) := Lib.hid (fun _ => rfl)
    go_enter Try.func58, Try.ntmps58
    go_wp2_with fail
    go_ret
    refine ⟨⟨_, rfl, ?_⟩, (Below.refl _ _).alloc (Nat.le_refl _) _⟩
    rw [HP.out]
    refine ⟨_, owns_single w 25 (.slice none 0 0), fun k hk => ?_⟩
    obtain rfl : k = 0 := by simpa using hk
    exact ⟨none, 0, rfl, Nat.le_refl _, fun _ => rfl, IntsIn.nil _ _, fun b off e => by cases e⟩
  | succ r ih =>
    intro l a cap w hl h6 hin hlc hcm
    have HI := Lib.hid hin; have HIh := Lib.hid ih; have HL := Lib.hid hl; have HCm := Lib.hid hcm
    have hl0 : ((l.length : Int) == 0) = false := by rw [beq_eq_false_iff_ne]; omega
    have hl6 : l.length ≤ 6 := by omega
    have HPk : Hid (permsL (r + 1) l = permsK r l l.length) := Lib.hid rfl
    have HSm := Lib.hid (fun i hi => permsK_small (r := r) (l := l) hl h6 (i := i) hi)
    clear hin ih hl
    obtain ⟨i0, hi, ip0, ip1, ip2⟩ := info_parts Try.infoInt
    obtain ⟨j0, hj, jp0, jp1, jp2⟩ := info_parts infoRowI
    go_enter Try.func58, Try.ntmps58
    go_wp2_with fail
    go_loopw [3, 4] (fun v i wr => ∃ k : Nat, k ≤ l.length ∧ i = .int .i64 k ∧ RowsOwn wr w.heap.size v (permsK r l k) ∧ Below w.heap.size w wr) (fun _ i _ => l.length - (intOf i).toNat)
    case atStart => exact ⟨0, Nat.zero_le _, rfl, RowsOwn.nil _ _, Below.refl _ _⟩
    case round =>
      obtain ⟨k, hk, rfl, hro, hb⟩ := hrel
      have HRo := Lib.hid hro; have HB := Lib.hid hb
      clear hro hb
      by_cases hlt : k < l.length
      · have hki : (k : Int) < (l.length : Int) := by omega
        have hk0 : (0 : Int) ≤ (k : Int) := by omega
        obtain ⟨b, off, rfl, hck⟩ := HI.out.below HB.out k hlt
        obtain ⟨va, vc, rfl⟩ := HRo.out.shape
        have hkc : k ≤ cap := by omega
        have hkci : (k : Int) ≤ (cap : Int) := by omega
        have hk1 : (k : Int) + 1 ≤ (l.length : Int) := by omega
        clear HCm
        unfold maxLen at hcm
        go_upto_region 7 with (fail)
        have e1 : IntKind.i64.wrap ((k : Int) + 1) = (k : Int) + 1 := IntWalk.i64_in _ (by omega)
        have e2 : ((k : Int) + 1).toNat = k + 1 := by omega
        have e3 : (0 : Int) ≤ (k : Int) + 1 := by omega
        have HTk : Hid (IntsIn (wr.alloc (.cells #[] 3)).drew (some ⟨b, off, none⟩) (l.take k)) := Lib.hid (IntsIn.take ((HI.out.below HB.out).below (((Below.refl wr.heap.size wr).alloc (Nat.le_refl _) (.cells #[] 3)).drew)) k)
        have HE0 : Hid ((wr.alloc (.cells #[] 3)).drew.ownsRow wr.heap.size 3 1 (.slice (some ⟨wr.heap.size, 0, none⟩) 0 0) 0 []) := Lib.hid (owns_none wr 3)
        have HEl : Hid ((l.eraseIdx k).length = r) := Lib.hid (by rw [List.length_eraseIdx, if_pos hlt]; have := HL.out; omega)
        have HDr1 := Lib.hid (ints_drop (HI.out.below HB.out) (k + 1))
        have HDr0 : Hid (∀ w2, Below wr.heap.size wr w2 → ∀ j u, (PK.encI (l.drop (k + 1)))[j]? = some u → w2.cell? ((if cap = k + 1 then (⟨b, off, none⟩ : Addr) else ⟨b, off + (k + 1), none⟩).add j) = some u) := Lib.hid (fun w2 hb2 => by
          by_cases hcc : cap = k + 1
          · rw [if_pos hcc]; exact drop_none (show l.length ≤ k + 1 by omega)
          · rw [if_neg hcc]; exact ints_at (HDr1.out.below hb2))
        clear HDr1
        refine wp_region_held_drew (S := (fun _ => True)) (by kernel_rfl) trivial (fun hHeld => ?_)
        refine wpAnyH_take (i := 1) (v := ?v1a) (by simp only [List.getElem?_toArray, List.getElem?_cons_zero, List.getElem?_cons_succ]; rfl) (by kernel_rfl) (by kernel_rfl) (by kernel_rfl) (by exact fun _ _ _ h => h) (Or.inl ⟨by rfl, ?hy1a⟩) (by assumption) ?_
        case hy1a => intro w hSw; (try dsimp only at hSw); go_simp; try with_reducible rfl
        try simp only [Act.put, List.setIfInBounds_toArray, List.set_cons_zero, List.set_cons_succ]
        refine wpAnyH_take (i := 2) (v := ?v2a) (by simp only [List.getElem?_toArray, List.getElem?_cons_zero, List.getElem?_cons_succ]; rfl) (by kernel_rfl) (by kernel_rfl) (by kernel_rfl) (by exact fun _ _ _ h => h) (Or.inl ⟨by rfl, ?hy2a⟩) (by assumption) ?_
        case hy2a => intro w hSw; (try dsimp only at hSw); go_simp; try with_reducible rfl
        try simp only [Act.put, List.setIfInBounds_toArray, List.set_cons_zero, List.set_cons_succ]
        refine wpAnyH_take (i := 3) (v := ?v3a) (by simp only [List.getElem?_toArray, List.getElem?_cons_zero, List.getElem?_cons_succ]; rfl) (by kernel_rfl) (by kernel_rfl) (by kernel_rfl) (by exact fun _ _ _ h => h) (Or.inl ⟨by rfl, ?hy3a⟩) (by assumption) ?_
        case hy3a => intro w hSw; (try dsimp only at hSw); go_simp; try with_reducible rfl
        try simp only [Act.put, List.setIfInBounds_toArray, List.set_cons_zero, List.set_cons_succ]
        refine wpAnyH_take (i := 5) (v := ?v5a) (by simp only [List.getElem?_toArray, List.getElem?_cons_zero, List.getElem?_cons_succ]; rfl) (by kernel_rfl) (by kernel_rfl) (by kernel_rfl) (by exact fun _ _ _ h => h) (Or.inl ⟨by rfl, ?hy5a⟩) (by assumption) ?_
        case hy5a => intro w hSw; (try dsimp only at hSw); go_simp; try with_reducible rfl
        try simp only [Act.put, List.setIfInBounds_toArray, List.set_cons_zero, List.set_cons_succ]
        refine wpAnyH_take (i := 6) (v := ?v6a) (by simp only [List.getElem?_toArray, List.getElem?_cons_zero, List.getElem?_cons_succ]; rfl) (by kernel_rfl) (by kernel_rfl) (by kernel_rfl) (by exact fun _ _ _ h => h) (Or.inl ⟨by rfl, ?hy6a⟩) (by assumption) ?_
        case hy6a => intro w hSw; (try dsimp only at hSw); go_simp; try with_reducible rfl
        try simp only [Act.put, List.setIfInBounds_toArray, List.set_cons_zero, List.set_cons_succ]
        refine wpAnyH_take (i := 7) (v := ?v7a) (by simp only [List.getElem?_toArray, List.getElem?_cons_zero, List.getElem?_cons_succ]; rfl) (by kernel_rfl) (by kernel_rfl) (by kernel_rfl) (by exact fun _ _ _ h => h) (Or.inl ⟨by rfl, ?hy7a⟩) (by assumption) ?_
        case hy7a => intro w hSw; (try dsimp only at hSw); go_simp; try with_reducible rfl
        try simp only [Act.put, List.setIfInBounds_toArray, List.set_cons_zero, List.set_cons_succ]
        refine wpAnyH_take (i := 8) (v := ?v8a) (by simp only [List.getElem?_toArray, List.getElem?_cons_zero, List.getElem?_cons_succ]; rfl) (by kernel_rfl) (by kernel_rfl) (by kernel_rfl) (by exact fun _ _ _ h => h) (Or.inl ⟨by rfl, ?hy8a⟩) (by assumption) ?_
        case hy8a => intro w hSw; (try dsimp only at hSw); go_simp; try with_reducible rfl
        try simp only [Act.put, List.setIfInBounds_toArray, List.set_cons_zero, List.set_cons_succ]
        refine wpAnyH_ready (rs := [0]) (by kernel_rfl) (by simp) ?_
        refine AllReadyH.cons (by simp only [List.getElem?_toArray, List.getElem?_cons_zero]; rfl) (fun K hK => ?_) AllReadyH.nil
        go_simp
        refine hK.out _ _ trivial (fun _ => ?_)
        clear hK K
        try simp only [Act.put, List.setIfInBounds_toArray, List.set_cons_zero, List.set_cons_succ]
        have hif : (if cap = k + 1 then some (⟨b, off, none⟩ : Addr) else some ⟨b, off + (k + 1), none⟩) = some (if cap = k + 1 then ⟨b, off, none⟩ else ⟨b, off + (k + 1), none⟩) := by split <;> rfl
        rw [hif]
        clear hif
        generalize (if cap = k + 1 then (⟨b, off, none⟩ : Addr) else ⟨b, off + (k + 1), none⟩) = ad at *
        refine wpAnyH_ready (rs := [4]) (by kernel_rfl) (by simp) ?_
        refine AllReadyH.cons (by simp only [List.getElem?_toArray, List.getElem?_cons_zero, List.getElem?_cons_succ]; rfl) (fun K hK => ?_) AllReadyH.nil
        refine step_append_at rfl _ _ 25 rfl wr.heap.size 3 i0 (.int .i64 0) 1 8 Try.underlying25 hi ip0 ip1 ip2 rfl (by decide) _ _ _ rfl HE0.out ⟨b, off, none⟩ k _ (PK.encI (l.take k)) rfl (by rw [PK.encI_len, Nat.mul_one]; simp; try omega) (ints_at HTk.out) (PK.encI_one _) (by unfold maxLen; omega) (by omega) (by simp) ?_
        intro v1 w2 hown1 hgrow1 _
        rw [Nat.zero_add, List.nil_append] at hown1
        have hb2 : Below wr.heap.size wr w2 := below_made hgrow1
        obtain ⟨v1a, v1c, rfl⟩ := owns_shape hown1
        have HO1 := Lib.hid hown1; have HB2 := Lib.hid hb2
        have HDr := Lib.hid (HDr0.out w2 hb2)
        clear hown1 hgrow1 hb2
        try go_simp
        refine hK.out _ _ trivial (fun _ => ?_)
        clear hK K
        try simp only [Act.put, List.setIfInBounds_toArray, List.set_cons_zero, List.set_cons_succ]
        refine wpAnyH_ready (rs := [9]) (by kernel_rfl) (by simp) ?_
        refine AllReadyH.cons (by simp only [List.getElem?_toArray, List.getElem?_cons_zero, List.getElem?_cons_succ]; rfl) (fun K hK => ?_) AllReadyH.nil
        refine step_append_at rfl _ _ 25 rfl wr.heap.size 3 i0 (.int .i64 0) 1 8 Try.underlying25 hi ip0 ip1 ip2 rfl (by decide) _ _ _ rfl HO1.out ad (l.length - (k + 1)) _ (PK.encI (l.drop (k + 1))) rfl (by rw [PK.encI_len, Nat.mul_one]; simp; try omega) HDr.out (PK.encI_one _) (by unfold maxLen; omega) (by omega) HB2.out.size ?_
        intro v2 w3 hown2 hgrow2 _
        have hb3 : Below wr.heap.size wr w3 := HB2.out.grown hgrow2 HB2.out.size (fun g hg => (owns_block HO1.out hg).1)
        have hown3 := owns_erase hlt hown2
        obtain ⟨v2a, v2c, rfl, hcl2, hin2⟩ := ints_of_owns hown3
        have hcm2 := owns_cap hown3
        have HB3 := Lib.hid hb3
        have HC3 := Lib.hid (HIh.out (l.eraseIdx k) v2a v2c w3 HEl.out (by omega) hin2 hcl2 hcm2)
        clear hown2 hgrow2 hown3 hin2 hb3 hcl2 hcm2 HDr HO1
        try go_simp
        refine hK.out _ _ trivial (fun _ => ?_)
        clear hK K
        try simp only [Act.put, List.setIfInBounds_toArray, List.set_cons_zero, List.set_cons_succ]
        refine wpAnyH_ready (rs := [10]) (by kernel_rfl) (by simp) ?_
        refine AllReadyH.cons (by simp only [List.getElem?_toArray, List.getElem?_cons_zero, List.getElem?_cons_succ]; rfl) (fun K hK => ?_) AllReadyH.nil
        go_simp
        refine HC3.out.mono ?_; rintro e w4 ⟨⟨v4, rfl, hrw4⟩, hb4⟩
        have HRw := Lib.hid hrw4
        have HB4 := Lib.hid (HB3.out.trans (hb4.mono HB3.out.size))
        have HB3s := HB3.out.size
        obtain ⟨v4a, v4c, rfl⟩ := hrw4.shape
        clear hrw4 hb4 HC3
        refine hK.out _ _ trivial (fun _ => ?_)
        clear hK K
        try simp only [Act.put, List.setIfInBounds_toArray, List.set_cons_zero, List.set_cons_succ]
        refine wpAnyH_ready (rs := [11]) (by kernel_rfl) (by simp) ?_
        refine AllReadyH.cons (by simp only [List.getElem?_toArray, List.getElem?_cons_zero, List.getElem?_cons_succ]; rfl) (fun K hK => ?_) AllReadyH.nil
        go_simp
        refine hK.out _ _ trivial (fun _ => ?_)
        clear hK K
        try simp only [Act.put, List.setIfInBounds_toArray, List.set_cons_zero, List.set_cons_succ]
        refine wpAnyH_done (by kernel_rfl) ?_ _
        have HBet := Lib.hid HRw.out.bet
        have HRo4 := Lib.hid (HRo.out.below HB4.out)
        have HBw4 := Lib.hid (HB.out.trans (HB4.out.mono HB.out.size))
        have hro0 : Hid (∀ g, (Value.slice va (permsK r l k).length vc).ownBlock = some g → g < w3.heap.size ∨ w4.heap.size ≤ g) := Lib.hid (fun g hg => by
          obtain ⟨vals, ho, _⟩ := HRo.out
          have := (owns_block ho hg).2
          omega)
        have HPlen := Lib.hid (fun y hy => permsL_len r (l.eraseIdx k) y HEl.out hy)
        have HPs := Lib.hid (permsL_small (r := r) (l := l.eraseIdx k) HEl.out (by omega))
        have HKs := Lib.hid (HSm.out k hk)
        have HPk1 := Lib.hid (permsK_succ r l k)
        clear HRw HRo HIh
        generalize hKk : permsK r l k = Kk at *
        generalize permsL r (l.eraseIdx k) = P at *
        generalize hx : l.getD k 0 = x at *
        have HX := Lib.hid hx; clear hx
        have HKk := Lib.hid hKk; clear hKk
        go_wp2_with fail
        go_loopw [3, 6] (fun v j ws => ∃ m : Nat, m ≤ P.length ∧ j = .int .i64 m ∧ RowsOwn ws w.heap.size v (Kk ++ (P.take m).map fun p => x :: p) ∧ (∀ g, v.ownBlock = some g → g < w3.heap.size ∨ w4.heap.size ≤ g) ∧ RowsBet ws w3.heap.size w4.heap.size (.slice v4a P.length v4c) P ∧ w4.heap.size ≤ ws.heap.size ∧ Below w.heap.size w ws) (fun _ j _ => P.length - (intOf j).toNat)
        case atStart => exact ⟨0, Nat.zero_le _, rfl, by simpa using HRo4.out, hro0.out, HBet.out, Nat.le_refl _, HBw4.out⟩
        case round =>
          obtain ⟨m, hm, rfl, hrow, hown, hbet, hsz, hbw⟩ := hrel
          have HRow := Lib.hid hrow; have HOwn := Lib.hid hown; have HBt := Lib.hid hbet; have HBw := Lib.hid hbw; have HSz := Lib.hid hsz
          clear hrow hown hbet hbw hsz
          by_cases hml : m < P.length
          · have hmi : (m : Int) < (P.length : Int) := by omega
            have hm0 : (0 : Int) ≤ (m : Int) := by omega
            have hP6 : P.length ≤ 46656 := HPs.out
            obtain ⟨g4, c4, a5, cap5, e4, hg4, hg4h, hc4, hcp5, hn5, hi5, _⟩ := HBt.out m hml
            simp only [Value.slice.injEq, true_and] at e4
            obtain ⟨rfl, rfl⟩ := e4
            have hcx : wr.cell? ⟨b, off + k, none⟩ = some (.int .i64 x) := by
              obtain ⟨b', o', e, hc⟩ := HI.out.below HBw.out k hlt
              simp only [Option.some.injEq, Addr.mk.injEq, and_true] at e
              obtain ⟨rfl, rfl⟩ := e
              rw [HX.out] at hc
              exact hc
            have hyl : (P.getD m []).length = r := HPlen.out _ (by rw [List.getD_eq_getElem?_getD, List.getElem?_eq_getElem hml]; exact List.getElem_mem hml)
            have HTk : Hid ((P.take (m + 1)).map (fun p => x :: p) = (P.take m).map (fun p => x :: p) ++ [x :: P.getD m []]) := Lib.hid (by
              rw [List.take_succ_eq_append_getElem hml, List.map_append, List.getD_eq_getElem?_getD, List.getElem?_eq_getElem hml]; rfl)
            obtain ⟨vals, hov, hra⟩ := HRow.out
            have hLl : (Kk ++ (P.take m).map fun p => x :: p).length ≤ 1000000 := by
              rw [List.length_append, List.length_map, List.length_take]
              have := HPs.out; have := HKs.out; omega
            generalize hL : (Kk ++ (P.take m).map fun p => x :: p) = L at *
            have HL2 := Lib.hid hL; clear hL
            generalize P.getD m [] = y at *
            have hy6 : y.length ≤ 6 := by omega
            have HYl := Lib.hid hyl; clear hyl
            obtain ⟨oa, oc, rfl⟩ := owns_shape hov
            have HOv := Lib.hid hov; have HRa := Lib.hid hra; have HI5 := Lib.hid hi5
            have hA : Below wr.heap.size wr (wr.alloc (.cells #[.int .i64 x] 3)).drew := ((Below.refl wr.heap.size wr).alloc (Nat.le_refl _) (.cells #[.int .i64 x] 3)).drew
            have HA := Lib.hid hA
            have HOne : Hid ((wr.alloc (.cells #[.int .i64 x] 3)).drew.ownsRow wr.heap.size 3 1 (.slice (some ⟨wr.heap.size, 0, none⟩) 1 1) 1 [.int .i64 x]) := Lib.hid (owns_single wr 3 (.int .i64 x))
            clear hov hra hi5 hA
            go_upto_region 11 with (fail)
            refine wp_region_held_drew (S := (fun w' => w'.cell? ⟨b, off + k, none⟩ = some (.int .i64 x) ∧ w'.cell? ⟨g4, m, none⟩ = some (.slice a5 y.length cap5))) (by kernel_rfl) ⟨hcx, hc4⟩ (fun hHeld => ?_)
            refine wpAnyH_take (i := 0) (v := ?v0az) (by simp only [List.getElem?_toArray, List.getElem?_cons_zero]; rfl) (by kernel_rfl) (by kernel_rfl) (by kernel_rfl) (by exact fun _ _ _ h => h) (Or.inl ⟨by rfl, ?hy0az⟩) (by assumption) ?_
            case hy0az => intro w hSw; (try dsimp only at hSw); go_simp; try with_reducible rfl
            try simp only [Act.put, List.setIfInBounds_toArray, List.set_cons_zero, List.set_cons_succ]
            refine wpAnyH_take (i := 1) (v := ?v1az) (by simp only [List.getElem?_toArray, List.getElem?_cons_zero, List.getElem?_cons_succ]; rfl) (by kernel_rfl) (by kernel_rfl) (by kernel_rfl) (by exact fun _ _ _ h => h) (Or.inl ⟨by rfl, ?hy1az⟩) (by assumption) ?_
            case hy1az => intro w hSw; (try dsimp only at hSw); go_simp; try with_reducible rfl
            try simp only [Act.put, List.setIfInBounds_toArray, List.set_cons_zero, List.set_cons_succ]
            refine wpAnyH_take (i := 2) (v := ?v2az) (by simp only [List.getElem?_toArray, List.getElem?_cons_zero, List.getElem?_cons_succ]; rfl) (by kernel_rfl) (by kernel_rfl) (by kernel_rfl) (by exact fun _ _ _ h => h) (Or.inl ⟨by rfl, ?hy2az⟩) (by assumption) ?_
            case hy2az => intro w hSw; (try dsimp only at hSw); go_simp; try with_reducible rfl
            try simp only [Act.put, List.setIfInBounds_toArray, List.set_cons_zero, List.set_cons_succ]
            refine wpAnyH_take (i := 3) (v := ?v3az) (by simp only [List.getElem?_toArray, List.getElem?_cons_zero, List.getElem?_cons_succ]; rfl) (by kernel_rfl) (by kernel_rfl) (by kernel_rfl) (by exact fun _ _ _ h => h) (Or.inl ⟨by rfl, ?hy3az⟩) (by assumption) ?_
            case hy3az => intro w hSw; (try dsimp only at hSw); go_simp; try with_reducible rfl
            try simp only [Act.put, List.setIfInBounds_toArray, List.set_cons_zero, List.set_cons_succ]
            refine wpAnyH_take (i := 4) (v := ?v4az) (by simp only [List.getElem?_toArray, List.getElem?_cons_zero, List.getElem?_cons_succ]; rfl) (by kernel_rfl) (by kernel_rfl) (by kernel_rfl) (by exact fun _ _ _ h => h) (Or.inl ⟨by rfl, ?hy4az⟩) (by assumption) ?_
            case hy4az => intro w hSw; (try dsimp only at hSw); go_simp; try with_reducible rfl
            try simp only [Act.put, List.setIfInBounds_toArray, List.set_cons_zero, List.set_cons_succ]
            refine wpAnyH_take (i := 6) (v := ?v6az) (by simp only [List.getElem?_toArray, List.getElem?_cons_zero, List.getElem?_cons_succ]; rfl) (by kernel_rfl) (by kernel_rfl) (by kernel_rfl) (by exact fun _ _ _ h => h) (Or.inl ⟨by rfl, ?hy6az⟩) (by assumption) ?_
            case hy6az => intro w hSw; (try dsimp only at hSw); go_simp; try with_reducible rfl
            try simp only [Act.put, List.setIfInBounds_toArray, List.set_cons_zero, List.set_cons_succ]
            refine wpAnyH_take (i := 7) (v := ?v7az) (by simp only [List.getElem?_toArray, List.getElem?_cons_zero, List.getElem?_cons_succ]; rfl) (by kernel_rfl) (by kernel_rfl) (by kernel_rfl) (by exact fun _ _ _ h => h) (Or.inl ⟨by rfl, ?hy7az⟩) (by assumption) ?_
            case hy7az => intro w hSw; (try dsimp only at hSw); go_simp; try with_reducible rfl
            try simp only [Act.put, List.setIfInBounds_toArray, List.set_cons_zero, List.set_cons_succ]
            refine wpAnyH_take (i := 8) (v := ?v8az) (by simp only [List.getElem?_toArray, List.getElem?_cons_zero, List.getElem?_cons_succ]; rfl) (by kernel_rfl) (by kernel_rfl) (by kernel_rfl) (by exact fun _ _ _ h => h) (Or.inl ⟨by rfl, ?hy8az⟩) (by assumption) ?_
            case hy8az => intro w hSw; (try dsimp only at hSw); go_simp; try with_reducible rfl
            try simp only [Act.put, List.setIfInBounds_toArray, List.set_cons_zero, List.set_cons_succ]
            refine wpAnyH_take (i := 9) (v := ?v9az) (by simp only [List.getElem?_toArray, List.getElem?_cons_zero, List.getElem?_cons_succ]; rfl) (by kernel_rfl) (by kernel_rfl) (by kernel_rfl) (by exact fun _ _ _ h => h) (Or.inl ⟨by rfl, ?hy9az⟩) (by assumption) ?_
            case hy9az => intro w hSw; (try dsimp only at hSw); go_simp; try with_reducible rfl
            try simp only [Act.put, List.setIfInBounds_toArray, List.set_cons_zero, List.set_cons_succ]
            refine wpAnyH_ready (rs := [5]) (by kernel_rfl) (by simp) ?_
            refine AllReadyH.cons (by simp only [List.getElem?_toArray, List.getElem?_cons_zero, List.getElem?_cons_succ]; rfl) (fun K hK => ?_) AllReadyH.nil
            go_simp
            refine hK.out _ _ ⟨keep hcx HA.out, keep hc4 HA.out⟩ (fun _ => ?_)
            clear hK K
            try simp only [Act.put, List.setIfInBounds_toArray, List.set_cons_zero, List.set_cons_succ]
            refine wpAnyH_ready (rs := [10]) (by kernel_rfl) (by simp) ?_
            refine AllReadyH.cons (by simp only [List.getElem?_toArray, List.getElem?_cons_zero, List.getElem?_cons_succ]; rfl) (fun K hK => ?_) AllReadyH.nil
            refine step_append_ints rfl _ _ rfl wr.heap.size _ 1 [.int .i64 x] rfl HOne.out a5 cap5 y rfl (HI5.out.below HA.out) hn5 (by unfold maxLen; omega) (by omega) (by simp) ?_
            intro v5 w5 hown5 hgrow5 _
            rw [Nat.add_comm] at hown5
            obtain ⟨g5, c5, rfl⟩ := ownsRow_succ hown5
            have hb5 := below_made hgrow5
            have hown5' : w5.ownsRow wr.heap.size 3 1 (.slice (some ⟨g5, 0, none⟩) (y.length + 1) c5) (x :: y).length (PK.encI (x :: y)) := hown5
            have HO5 := Lib.hid hown5'; have HB5 := Lib.hid hb5
            clear hown5 hown5' hgrow5 hb5
            try go_simp
            refine hK.out _ _ ⟨keep hcx HB5.out, keep hc4 HB5.out⟩ (fun _ => ?_)
            clear hK K
            try simp only [Act.put, List.setIfInBounds_toArray, List.set_cons_zero, List.set_cons_succ]
            refine wpAnyH_ready (rs := [11]) (by kernel_rfl) (by simp) ?_
            refine AllReadyH.cons (by simp only [List.getElem?_toArray, List.getElem?_cons_zero, List.getElem?_cons_succ]; rfl) (fun K hK => ?_) AllReadyH.nil
            go_simp
            have hA6 : Below w5.heap.size w5 (w5.alloc (.cells #[.slice (some ⟨g5, 0, none⟩) (y.length + 1) c5] 25)) := (Below.refl w5.heap.size w5).alloc (Nat.le_refl _) _
            have hb6 : Below wr.heap.size wr (w5.alloc (.cells #[.slice (some ⟨g5, 0, none⟩) (y.length + 1) c5] 25)) := HB5.out.trans (hA6.mono HB5.out.size)
            have HB6 := Lib.hid hb6
            have HOv6 := Lib.hid (owns_below HOv.out hb6)
            have HC6 := Lib.hid (cell_one_at w5 (.slice (some ⟨g5, 0, none⟩) (y.length + 1) c5) 25)
            have hs6 : w.heap.size ≤ (w5.alloc (.cells #[.slice (some ⟨g5, 0, none⟩) (y.length + 1) c5] 25)).heap.size := by
              have h1 := HBw.out.size
              have h2 := hb6.size
              omega
            have HS6 := Lib.hid hs6
            have HI6 := Lib.hid (by
              obtain ⟨_, _, e, _, hi⟩ := ints_of_owns (xs := x :: y) HO5.out
              cases e
              exact hi.below hA6)
            have hgb := owns_block HO5.out (g := g5) rfl
            have HG5 := Lib.hid hgb
            have hcap5 : Hid (y.length + 1 ≤ c5) := Lib.hid (by
              obtain ⟨_, _, e, hle, _⟩ := ints_of_owns (xs := x :: y) HO5.out
              cases e
              exact hle)
            clear hA6 hb6 hs6 hgb
            refine hK.out _ _ ⟨keep hcx HB6.out, keep hc4 HB6.out⟩ (fun _ => ?_)
            clear hK K
            try simp only [Act.put, List.setIfInBounds_toArray, List.set_cons_zero, List.set_cons_succ]
            refine wpAnyH_ready (rs := [12]) (by kernel_rfl) (by simp) ?_
            refine AllReadyH.cons (by simp only [List.getElem?_toArray, List.getElem?_cons_zero, List.getElem?_cons_succ]; rfl) (fun K hK => ?_) AllReadyH.nil
            refine step_append_at rfl _ _ 76 rfl w.heap.size 25 j0 (.slice none 0 0) 1 24 Try.underlying76 hj jp0 jp1 jp2 rfl (by decide) _ _ _ rfl HOv6.out ⟨w5.heap.size, 0, none⟩ 1 1 [.slice (some ⟨g5, 0, none⟩) (y.length + 1) c5] rfl rfl HC6.out (by simp [Value.oneCell']) (by unfold maxLen; omega) (by omega) HS6.out ?_
            intro v7 w7 hown7 hgrow7 hat7
            have hov := HOv.out
            have hgo : ∀ g, (Value.slice oa L.length oc).ownBlock = some g → g < wr.heap.size := fun g hg => (owns_block hov hg).2
            have hsz5 : wr.heap.size ≤ w5.heap.size := HB5.out.size
            have hrows7 := RowsOwn.snoc (xs := x :: y) (by have := hov.1; omega) (HRa.out.below HB6.out) hown7 hgrow7 hat7 HI6.out hcap5.out (fun e => by cases e) (fun b' o' e => by
              cases e
              have h1 := HG5.out
              have h2 := HBw.out.size
              refine ⟨by omega, by simp; omega, fun e2 => ?_⟩
              have := hgo g5 e2.symm
              omega)
            have hb7 : Below w.heap.size wr w7 := (HB6.out.mono HBw.out.size).grown hgrow7 HS6.out (fun g hg => (owns_block hov hg).1)
            have hown8 : ∀ g, v7.ownBlock = some g → g < w3.heap.size ∨ w4.heap.size ≤ g := fun g hg => by
              rcases hat7 with e | e
              · exact HOwn.out g (e ▸ hg)
              · rw [e] at hg
                cases hg
                have := HSz.out
                right; simp; omega
            have hbet7 : RowsBet w7 w3.heap.size w4.heap.size (.slice (some ⟨g4, 0, none⟩) P.length v4c) P := HBt.out.keep (fun b' h1 h2 => by
              have h3 := HSz.out
              rw [hgrow7.block b' (by simp; omega) (fun e => by
                rcases HOwn.out b' e.symm with h | h <;> omega)]
              exact HB6.out.block b' (by omega))
            have hcx7 : w7.cell? ⟨b, off + k, none⟩ = some (.int .i64 x) := by
              obtain ⟨b', o', e, hc⟩ := HI.out.below (HBw.out.trans hb7) k hlt
              simp only [Option.some.injEq, Addr.mk.injEq, and_true] at e
              obtain ⟨rfl, rfl⟩ := e
              rw [HX.out] at hc
              exact hc
            have hc47 : w7.cell? ⟨g4, m, none⟩ = some (.slice a5 y.length cap5) := by
              have h3 := HSz.out
              refine cellOf (keep hc4 HB6.out) (hgrow7.block g4 (by simp; omega) (fun e => ?_))
              rcases HOwn.out g4 e.symm with h | h <;> omega
            have hsz7 : w4.heap.size ≤ w7.heap.size := by
              have h1 := HSz.out
              have h2 := HB6.out.size
              have h3 := hgrow7.size
              omega
            have hbw7 := HBw.out.trans hb7
            obtain ⟨v7a, v7c, rfl⟩ := owns_shape hown7
            have HR7 := Lib.hid hrows7; have HO7 := Lib.hid hown8; have HT7 := Lib.hid hbet7; have HZ7 := Lib.hid hsz7; have HW7 := Lib.hid hbw7
            clear hown7 hgrow7 hat7 hov hgo hrows7 hb7 hown8 hbet7 hsz7 hbw7
            try go_simp
            refine hK.out _ _ ⟨hcx7, hc47⟩ (fun _ => ?_)
            clear hK K
            try simp only [Act.put, List.setIfInBounds_toArray, List.set_cons_zero, List.set_cons_succ]
            refine wpAnyH_ready (rs := [13]) (by kernel_rfl) (by simp) ?_
            refine AllReadyH.cons (by simp only [List.getElem?_toArray, List.getElem?_cons_zero, List.getElem?_cons_succ]; rfl) (fun K hK => ?_) AllReadyH.nil
            go_simp
            refine hK.out _ _ ⟨hcx7, hc47⟩ (fun _ => ?_)
            clear hK K
            try simp only [Act.put, List.setIfInBounds_toArray, List.set_cons_zero, List.set_cons_succ]
            refine wpAnyH_done (by kernel_rfl) ?_ _
            go_wp2_with fail
            go_roundw
            case rel => exact ⟨m + 1, by omega, by go_num, by rw [HTk.out, ← List.append_assoc, HL2.out]; exact HR7.out, HO7.out, HT7.out, HZ7.out, HW7.out⟩
            case measure => simp [intOf]; omega
          · obtain rfl : m = P.length := by omega
            go_wp2_with fail
            go_roundw
            case rel => exact ⟨k + 1, by omega, by go_num, by rw [HPk1.out]; have := HRow.out; rwa [List.take_length] at this, HBw.out⟩
            case measure => simp [intOf]; omega
      · obtain rfl : k = l.length := by omega
        obtain ⟨va, vc, rfl⟩ := HRo.out.shape
        go_wp2_with fail
        go_ret
        exact ⟨⟨_, rfl, by rw [HPk.out]; exact HRo.out⟩, HB.out⟩
end Go.Proofs.Ytccpjfppkahbmaa
