/- Plainly: a list made by taking what may come next is an order; what lies in memory while time.listed makes one. -/
import Derived.Test.YtccpjfppkahbmaaU1
namespace Go.Proofs.Ytccpjfppkahbmaa
open Go.RowKit PK Go.Maps

structure InvS (l : List Cd) (o : List Int) : Prop where
  inv : InvO l o
  nd : o.Pairwise fun a b => a ≠ b
  rg : ∀ y, y ∈ o → 0 ≤ y ∧ y < (l.length : Int)
  ln : (restL l.length o).length + o.length = l.length
theorem InvS.start (l : List Cd) : InvS l [] := ⟨⟨List.Pairwise.nil, fun z hz => by cases hz⟩, List.Pairwise.nil, fun y hy => (by cases hy), by rw [restL_nil, iota_len]; rfl⟩
theorem InvS.next {l : List Cd} {o : List Int} {k : Nat} (h : InvS l o) (hk : k < l.length) (ho : openB l o k = true) : InvS l (o ++ [(k : Int)]) := by
  have hno := ((openB_mem hk).1 ho).2
  refine ⟨h.inv.next hk ho, ?_, ?_, ?_⟩
  · rw [List.pairwise_append]
    refine ⟨h.nd, List.pairwise_singleton _ _, fun a ha b hb e => ?_⟩
    obtain rfl := List.mem_singleton.1 hb
    exact hno (e ▸ ha)
  · intro y hy
    rw [List.mem_append, List.mem_singleton] at hy
    rcases hy with hy | rfl
    · exact h.rg y hy
    · exact ⟨by omega, by omega⟩
  · have hmem : (k : Int) ∈ restL l.length o := restL_mem.2 ⟨by omega, hno⟩
    obtain ⟨i, hil, hik⟩ := List.mem_iff_getElem.1 hmem
    have hln := h.ln
    rw [← hik, ← getD_get hil, restL_erase hil, List.length_eraseIdx, if_pos hil, List.length_append, List.length_singleton]
    omega
theorem InvS.goes {l : List Cd} {o : List Int} (h : InvS l o) (hlt : o.length < l.length) : ∃ k, k < l.length ∧ openB l o k = true := by
  have hln := h.ln
  have hpw : (restL l.length o).Pairwise fun a b => a < b := (iota_lt _).filter _
  rcases hr : restL l.length o with _ | ⟨x, xs⟩
  · rw [hr] at hln; simp at hln; omega
  · have hx : x ∈ restL l.length o := by rw [hr]; exact List.mem_cons_self
    obtain ⟨⟨h0, h1⟩, hxo⟩ := restL_mem.1 hx
    refine ⟨x.toNat, by omega, (openB_mem (by omega)).2 ⟨fun y hy0 hy hb => ?_, by rw [show ((x.toNat : Nat) : Int) = x by omega]; exact hxo⟩⟩
    rw [show ((x.toNat : Nat) : Int) = x by omega] at hb
    by_cases hyo : y ∈ o
    · exact hyo
    · exfalso
      have hm : y ∈ restL l.length o := restL_mem.2 ⟨⟨hy0, hy⟩, hyo⟩
      unfold badB at hb
      rw [Bool.and_eq_true, decide_eq_true_eq] at hb
      rw [hr] at hm hpw
      rw [List.pairwise_cons] at hpw
      rcases List.mem_cons.1 hm with rfl | hm
      · omega
      · have := hpw.1 y hm; omega
theorem InvS.done {l : List Cd} {o : List Int} (h : InvS l o) (hn : o.length = l.length) : permO l.length o ∧ ordOK l o o.length = true := by
  refine ⟨once_iff.1 ?_, by rw [ordOK_good]; exact decide_eq_true h.inv.good⟩
  unfold onceB
  rw [Bool.and_eq_true, decide_eq_true_eq, List.all_eq_true]
  refine ⟨hn, fun i hi => onceAt_iff.2 ?_⟩
  have hi := List.mem_range.1 hi
  have hil : i < o.length := by omega
  have hr := h.rg (o.getD i 0) (by rw [getD_get hil]; exact List.getElem_mem hil)
  refine ⟨hr.1, hr.2, fun hm => ?_⟩
  obtain ⟨j, hj, hjl, e⟩ := of_mem_take hm
  have := nodup_at h.nd hjl hil e
  omega
/-- What time.listed holds between two rounds. -/
structure LstSt (l : List Cd) (w : World) (b qt qu : Nat) (fu : Nat → Int) (o : List Int) (m : Nat) (f : Int → Option Int) (v : Value) (wr : World) : Prop where
  inv : InvS l o
  box : Boxed wr (b + 1) 25 v
  row : wr.ownsRow (b + 2) 3 1 v o.length (PK.encI o)
  map : MapI wr b m f
  mle : m ≤ o.length
  small : ∀ r, 0 ≤ (f r).getD 0 ∧ (f r).getD 0 ≤ 13 * (o.length : Int)
  tab : ∀ k, k < l.length → ∃ a cap, wr.cell? ⟨qt, k, none⟩ = some (.slice a (tabN l k k).length cap) ∧ IntsIn wr a (tabN l k k) ∧ ∀ j, j < (tabN l k k).length → ∃ b' off, a = some ⟨b', off, none⟩ ∧ b' < b
  qtb : qt < b
  qub : qu < b
  urg : NRow wr qu l.length fu
  bw : Below w.heap.size w wr
  sz : b + 2 ≤ wr.heap.size
  lw : w.heap.size ≤ b
variable {l : List Cd} {w : World} {b qt qu : Nat} {fu : Nat → Int} {o o' : List Int} {m m' : Nat} {f f' : Int → Option Int} {v v' : Value} {wr w' : World}
theorem LstSt.turn (h : LstSt l w b qt qu fu o m f v wr) (hk : ∀ k, k < b → w'.heap[k]? = wr.heap[k]?) (hs : wr.heap.size ≤ w'.heap.size) (hbw : Below w.heap.size w w') (inv : InvS l o') (box : Boxed w' (b + 1) 25 v') (row : w'.ownsRow (b + 2) 3 1 v' o'.length (PK.encI o'))
    (map : MapI w' b m' f') (mle : m' ≤ o'.length) (small : ∀ r, 0 ≤ (f' r).getD 0 ∧ (f' r).getD 0 ≤ 13 * (o'.length : Int)) : LstSt l w b qt qu fu o' m' f' v' w' where
  inv := inv
  box := box
  row := row
  map := map
  mle := mle
  small := small
  tab := fun k hkl => by
    obtain ⟨a, cap, hc, hi, hb⟩ := h.tab k hkl
    refine ⟨a, cap, cellOf hc (hk _ h.qtb), fun j hj => ?_, hb⟩
    obtain ⟨b', off, rfl, hcj⟩ := hi j hj
    obtain ⟨b2, off2, e, h2⟩ := hb j hj
    simp only [Option.some.injEq, Addr.mk.injEq, and_true] at e
    obtain ⟨rfl, rfl⟩ := e
    exact ⟨b', off, rfl, cellOf hcj (hk _ h2)⟩
  qtb := h.qtb
  qub := h.qub
  urg := (hk _ h.qub).trans h.urg
  bw := hbw
  sz := Nat.le_trans h.sz hs
  lw := h.lw
theorem LstSt.below (h : LstSt l w b qt qu fu o m f v wr) (hb : Below wr.heap.size wr w') : LstSt l w b qt qu fu o m f v w' :=
  h.turn (fun k hk => hb.block k (by have := h.sz; omega)) hb.size (h.bw.trans (hb.mono h.bw.size)) h.inv ((hb.block _ h.box.lt).trans h.box) (owns_below h.row hb) (h.map.below hb) h.mle h.small
/-- Behind the append of the chosen one. -/
theorem LstSt.push {k : Nat} {v9 : Value} {w9 : World} (h : LstSt l w b qt qu fu o m f v wr) (hk : k < l.length) (ho : openB l o k = true) (hown : w9.ownsRow (b + 2) 3 1 v9 (o.length + 1) (PK.encI o ++ [.int .i64 (k : Int)])) (hg : (wr.alloc (.cells #[.int .i64 (k : Int)] 3)).grownBy w9 v.ownBlock) :
    Boxed w9 (b + 1) 25 v ∧ LstSt l w b qt qu fu (o ++ [(k : Int)]) m f v9 (w9.setCell ⟨b + 1, 0, none⟩ v9) := by
  have hlw := h.lw
  have hsz := h.sz
  have hal := (Below.refl wr.heap.size wr).alloc (Nat.le_refl _) (.cells #[.int .i64 (k : Int)] 3)
  have hs1 : (wr.alloc (.cells #[.int .i64 (k : Int)] 3)).heap.size = wr.heap.size + 1 := by simp
  have hne : ∀ j, j < b + 2 → some j ≠ v.ownBlock := fun j hj e => by have := (owns_block h.row e.symm).1; omega
  have hbo := (h.box.alloc (.cells #[.int .i64 (k : Int)] 3)).kept hg (hne _ (by omega))
  have hg9 := hg.size
  have hgs := grownBy_setCell' w9 (b + 1) v9
  have hb9 : Below w.heap.size w w9 := (h.bw.trans (hal.mono h.bw.size)).grown hg (by omega) (fun j e => by have := (owns_block h.row e).1; omega)
  have hlen : (o ++ [(k : Int)]).length = o.length + 1 := by simp
  refine ⟨hbo, h.turn (fun j hj => ?_) ?_ ?_ (h.inv.next hk ho) (hbo.set v9) ?_ ?_ ?_ ?_⟩
  · rw [Below.heap_setCell _ _ _ _ (show j ≠ b + 1 by omega), hg.block j (by omega) (hne j (by omega))]
    exact hal.block j (by omega)
  · have := hgs.size; omega
  · exact hb9.grown hgs (by omega) (fun j e => by cases e; omega)
  · rw [hlen, PK.encI_snoc]
    exact hown.kept hgs (.inr (fun e => by have := (owns_block hown e).1; omega))
  · exact ((h.map.below hal).kept hg (hne b (by omega))).kept hgs (by simp)
  · rw [hlen]; have := h.mle; omega
  · intro r
    have := h.small r
    rw [hlen]
    omega
theorem LstSt.mapped {d y : Int} (h : LstSt l w b qt qu fu o m f v wr) (hm : MapI w' b (m + 1) (putI f d y)) (ht : wr.mapTurned w' b) (hlen : m + 1 ≤ o.length) (hy0 : 0 ≤ y) (hy1 : y ≤ 13 * (o.length : Int)) : LstSt l w b qt qu fu o (m + 1) (putI f d y) v w' := by
  have hg := ht.grown
  have hsz := h.sz
  refine h.turn (fun k hk => hg.block k (by omega) (by simp; omega)) hg.size (turned_below h.bw ht (by have := h.lw; omega) h.lw) h.inv (h.box.kept hg (by simp)) (owns_kept_map h.row hg (by omega)) hm hlen (fun r => ?_)
  unfold putI
  split
  · exact ⟨hy0, hy1⟩
  · exact h.small r
theorem notIn2_any (Bo : Nat) (o : List Int) (a : Option Addr) (cap : Nat) (i : Int) (w : World) (hc : w.cell? ⟨Bo, 0, none⟩ = some (.slice a o.length cap)) (hin : IntsIn w a o) (hl : o.length ≤ 100000) :
    Calls Try.prog 99 #[.int .i64 i, .pointer (some ⟨Bo, 0, none⟩)] w fun e w' => e = .returned (.bool (!o.contains i)) ∧ Below w.heap.size w w' := by
  have HC := Lib.hid (contains_any o a cap i w hin hl)
  clear hin
  go_enter Try.func99, Try.ntmps99
  go_wp2_with fail
  refine HC.out.mono ?_; rintro e w2 ⟨rfl, rfl⟩
  generalize hb : o.contains i = b at *
  have HB := Lib.hid hb; clear hb
  go_wp2_with fail
  go_ret
  exact ⟨ret_bool (by rw [HB.out]), Below.refl _ _⟩
def ListedPost (l : List Cd) (w : World) (e : Ending) (w' : World) : Prop := (∃ v o, e = .returned v ∧ permO l.length o ∧ ordOK l o o.length = true ∧ w'.ownsRow w.heap.size 3 1 v o.length (PK.encI o)) ∧ Below w.heap.size w w'
/-- How far the choice of the next one has come. -/
def PickSt (l : List Cd) (o : List Int) (k : Nat) (best soon : Value) : Prop :=
  ∃ s : Int, soon = .int .i64 s ∧ 0 ≤ s ∧ s ≤ 13 * (o.length : Int) ∧ ((best = .int .i64 (-1) ∧ ∀ j, j < k → openB l o j = false) ∨ ∃ q : Nat, best = .int .i64 (q : Int) ∧ q < l.length ∧ openB l o q = true)
end Go.Proofs.Ytccpjfppkahbmaa
