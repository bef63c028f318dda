/- Rows of numbers in a row of the call's own, grown by append; equal lists of numbers. -/
import Derived.Test.YtahaoddilejpnaaHI
import Derived.Deep.MidRow
namespace Go.Proofs.Ytahaoddilejpnaa
open Go.RowKit

theorem cellOf {W W' : World} {b off : Nat} {v : Value} (h : W.cell? ⟨b, off, none⟩ = some v) (hk : W'.heap[b]? = W.heap[b]?) : W'.cell? ⟨b, off, none⟩ = some v := by
  rw [World.cell?_of_block (w := W) hk]; exact h
theorem cell_kept {w w' : World} {b off : Nat} {v : Value} {row : Option Nat} (h : w.cell? ⟨b, off, none⟩ = some v) (hg : w.grownBy w' row) (hne : some b ≠ row) : w'.cell? ⟨b, off, none⟩ = some v := by
  have e := hg.block b (block_lt_of_cell h) hne
  unfold World.cell? at *
  rw [e]; exact h
/-- The values of a row are these rows of numbers, and lie in other blocks. -/
def RowsAre (w : World) (base : Nat) (row : Option Nat) (L : List (List Int)) (vals : List Value) : Prop :=
  ∀ k, k < L.length → ∃ a cap, vals[k]? = some (.slice a (L.getD k []).length cap) ∧ (L.getD k []).length ≤ cap ∧ (a = none → cap = 0) ∧ IntsIn w a (L.getD k []) ∧ ∀ b off, a = some ⟨b, off, none⟩ → base ≤ b ∧ b < w.heap.size ∧ some b ≠ row
/-- Rows of numbers in a row of the call's own. -/
def RowsOwn (w : World) (base : Nat) (v : Value) (L : List (List Int)) : Prop := ∃ vals, w.ownsRow base 40 1 v L.length vals ∧ RowsAre w base v.ownBlock L vals
theorem RowsOwn.nil (w : World) (base : Nat) : RowsOwn w base (.slice none 0 0) [] := ⟨[], owns_nil _ _ _ _, fun _ hk => absurd hk (Nat.not_lt_zero _)⟩
theorem RowsOwn.shape {w : World} {base : Nat} {v : Value} {L : List (List Int)} (h : RowsOwn w base v L) : ∃ a cap, v = .slice a L.length cap := by
  obtain ⟨vals, ho, _⟩ := h
  exact owns_shape ho
theorem RowsAre.below {w w' : World} {base : Nat} {row : Option Nat} {L : List (List Int)} {vals : List Value} (h : RowsAre w base row L vals) (hb : Below w.heap.size w w') : RowsAre w' base row L vals := fun k hk => by
  obtain ⟨a, cap, h1, h2, h0, h3, h4⟩ := h k hk
  exact ⟨a, cap, h1, h2, h0, h3.below hb, fun b off e => ⟨(h4 b off e).1, Nat.lt_of_lt_of_le (h4 b off e).2.1 hb.size, (h4 b off e).2.2⟩⟩
theorem RowsOwn.below {w w' : World} {base : Nat} {v : Value} {L : List (List Int)} (h : RowsOwn w base v L) (hb : Below w.heap.size w w') : RowsOwn w' base v L := by
  obtain ⟨vals, ho, hr⟩ := h
  exact ⟨vals, owns_below ho hb, hr.below hb⟩
theorem RowsOwn.base {w : World} {base base' : Nat} {v : Value} {L : List (List Int)} (h : RowsOwn w base v L) (hb : base' ≤ base) : RowsOwn w base' v L := by
  obtain ⟨vals, ho, hr⟩ := h
  refine ⟨vals, owns_base ho hb, fun k hk => ?_⟩
  obtain ⟨a, cap, h1, h2, h0, h3, h4⟩ := hr k hk
  exact ⟨a, cap, h1, h2, h0, h3, fun b off e => ⟨Nat.le_trans hb (h4 b off e).1, (h4 b off e).2⟩⟩
/-- The same rows, with the blocks between which they lie. -/
def RowsBet (w : World) (lo hi : Nat) (v : Value) (L : List (List Int)) : Prop :=
  ∀ k, k < L.length → ∃ g c a cap, v = .slice (some ⟨g, 0, none⟩) L.length c ∧ lo ≤ g ∧ g < hi ∧ w.cell? ⟨g, k, none⟩ = some (.slice a (L.getD k []).length cap) ∧ (L.getD k []).length ≤ cap ∧ (a = none → cap = 0) ∧ IntsIn w a (L.getD k []) ∧ ∀ b off, a = some ⟨b, off, none⟩ → lo ≤ b ∧ b < hi
theorem RowsOwn.bet {w : World} {base : Nat} {v : Value} {L : List (List Int)} (h : RowsOwn w base v L) : RowsBet w base w.heap.size v L := fun k hk => by
  obtain ⟨vals, ho, hr⟩ := h
  obtain ⟨a, cap, h1, h2, h0, h3, h4⟩ := hr k hk
  obtain ⟨g, c, rfl, _, _, hg, hg2, hc, _⟩ := owns_cells ho (by omega)
  exact ⟨g, c, a, cap, rfl, hg, hg2, hc _ _ h1, h2, h0, h3, fun b off e => ⟨(h4 b off e).1, (h4 b off e).2.1⟩⟩
theorem RowsBet.keep {w w' : World} {lo hi : Nat} {v : Value} {L : List (List Int)} (h : RowsBet w lo hi v L) (hk : ∀ b, lo ≤ b → b < hi → w'.heap[b]? = w.heap[b]?) : RowsBet w' lo hi v L := fun k hkl => by
  obtain ⟨g, c, a, cap, e, h1, h2, h3, h4, h0, h5, h6⟩ := h k hkl
  refine ⟨g, c, a, cap, e, h1, h2, cellOf h3 (hk g h1 h2), h4, h0, fun j hj => ?_, h6⟩
  obtain ⟨b, off, rfl, hc⟩ := h5 j hj
  obtain ⟨h7, h8⟩ := h6 b off rfl
  exact ⟨b, off, rfl, cellOf hc (hk b h7 h8)⟩
/-- One row more. -/
theorem RowsOwn.snoc {w w' : World} {base : Nat} {v v' : Value} {L : List (List Int)} {a : Option Addr} {cap : Nat} {xs : List Int} {vals : List Value} (hl : vals.length = L.length) (h : RowsAre w base v.ownBlock L vals) (ho : w'.ownsRow base 40 1 v' (L.length + 1) (vals ++ [.slice a xs.length cap])) (hg : w.grownBy w' v.ownBlock)
    (hat : v'.ownBlock = v.ownBlock ∨ v'.ownBlock = some w.heap.size) (hx : IntsIn w a xs) (hcap : xs.length ≤ cap) (h0 : a = none → cap = 0) (hxb : ∀ b off, a = some ⟨b, off, none⟩ → base ≤ b ∧ b < w.heap.size ∧ some b ≠ v.ownBlock) : RowsOwn w' base v' (L ++ [xs]) := by
  have hkeep : ∀ (b : Option Addr) (ys : List Int), IntsIn w b ys → (∀ c off, b = some ⟨c, off, none⟩ → base ≤ c ∧ c < w.heap.size ∧ some c ≠ v.ownBlock) → IntsIn w' b ys := fun b ys hi hb k hk => by
    obtain ⟨c, off, rfl, hc⟩ := hi k hk
    exact ⟨c, off, rfl, cell_kept hc hg (hb c off rfl).2.2⟩
  have hnew : ∀ c, base ≤ c ∧ c < w.heap.size ∧ some c ≠ v.ownBlock → base ≤ c ∧ c < w'.heap.size ∧ some c ≠ v'.ownBlock := fun c ⟨h3, h1, h2⟩ => ⟨h3, Nat.lt_of_lt_of_le h1 hg.size, fun e => by
    rcases hat with h3 | h3
    · rw [h3] at e; exact h2 e
    · rw [h3] at e; cases e; omega⟩
  refine ⟨vals ++ [.slice a xs.length cap], by rw [List.length_append]; exact ho, fun k hk => ?_⟩
  rw [List.length_append, List.length_singleton] at hk
  by_cases e : k < L.length
  · obtain ⟨b, c, h1, h2, h00, h3, h4⟩ := h k e
    have el : (L ++ [xs]).getD k [] = L.getD k [] := by rw [List.getD_eq_getElem?_getD, List.getD_eq_getElem?_getD, List.getElem?_append_left e]
    rw [el]
    refine ⟨b, c, ?_, h2, h00, hkeep b _ h3 h4, fun d off ed => hnew d (h4 d off ed)⟩
    rw [List.getElem?_append_left (by rw [hl]; exact e)]; exact h1
  · obtain rfl : k = L.length := by omega
    have el : (L ++ [xs]).getD L.length [] = xs := by simp [List.getD_eq_getElem?_getD]
    rw [el]
    refine ⟨a, cap, ?_, hcap, h0, hkeep a xs hx hxb, fun c off ec => hnew c (hxb c off ec)⟩
    rw [← hl, List.getElem?_append_right (Nat.le_refl _)]
    simp
theorem RowsOwn.rows {w : World} {base : Nat} {v : Value} {L : List (List Int)} (h : RowsOwn w base v L) : ∃ a cap, v = .slice a L.length cap ∧ RowsIn w a L := by
  obtain ⟨a, cap, rfl⟩ := h.shape
  refine ⟨a, cap, rfl, fun k hk => ?_⟩
  obtain ⟨g, c, a', cap', e, _, _, hc, h1, h2, h3, _⟩ := h.bet k hk
  cases e
  exact ⟨g, 0, a', cap', rfl, by rw [Nat.zero_add]; exact hc, h1, h2, h3⟩
set_option maxRecDepth 100000 in
theorem sameInts_any (xs : List Int) (a b : Option Addr) (ca cb : Nat) (w : World) (ha : IntsIn w a xs) (hb : IntsIn w b xs) (hl : xs.length ≤ 1000000) :
    Calls Try.prog 27 #[.slice a xs.length ca, .slice b xs.length cb] w fun e w' => e = .returned (.bool true) ∧ ∃ m, w' = w.drewN m := by
  have HA := Lib.hid ha; have HB := Lib.hid hb
  clear ha hb
  go_enter Try.func27, Try.ntmps27
  go_wp2_with fail
  go_loopw [5] (fun i wr => ∃ k : Nat, k ≤ xs.length ∧ i = .int .i64 k ∧ ∃ m, wr = w.drewN m) (fun i _ => xs.length - (intOf i).toNat)
  case atStart => exact ⟨0, Nat.zero_le _, rfl, 0, rfl⟩
  case round =>
    obtain ⟨k, hk, rfl, m, rfl⟩ := hrel
    by_cases hlt : k < xs.length
    · obtain ⟨b1, o1, rfl, c1⟩ := HA.out k hlt
      obtain ⟨b2, o2, rfl, c2⟩ := HB.out k hlt
      have hki : (k : Int) < (xs.length : Int) := by omega
      generalize xs.getD k 0 = x at *
      have c1 : (w.drewN m).cell? ⟨b1, o1 + k, none⟩ = some (.int .i64 x) := c1
      have c2 : (w.drewN m).cell? ⟨b2, o2 + k, none⟩ = some (.int .i64 x) := c2
      go_wp2_with fail
      go_quiet (fail)
      go_wp2_with fail
      go_roundw
      case rel => exact ⟨k + 1, by omega, by go_num, _, rfl⟩
      case measure => simp [intOf]; omega
    · have hk2 : k = xs.length := by omega
      go_wp2_with fail
      go_ret
      exact ⟨rfl, m, rfl⟩
set_option maxRecDepth 100000 in
theorem sameLists_any (g : List (List Int)) (a b : Option Addr) (ca cb : Nat) (w : World) (ha : RowsIn w a g) (hb : RowsIn w b g) (hs : Short g) :
    Calls Try.prog 21 #[.slice a g.length ca, .slice b g.length cb] w fun e w' => e = .returned (.bool true) ∧ Below w.heap.size w w' := by
  have HA := Lib.hid ha; have HB := Lib.hid hb; have HR := Lib.hid hs.row; have hl := hs.len
  clear ha hb hs
  go_enter Try.func21, Try.ntmps21
  go_wp2_with fail
  go_loopw [5] (fun i wr => ∃ k : Nat, k ≤ g.length ∧ i = .int .i64 k ∧ ∃ m, wr = w.drewN m) (fun i _ => g.length - (intOf i).toNat)
  case atStart => exact ⟨0, Nat.zero_le _, rfl, 0, rfl⟩
  case round =>
    obtain ⟨k, hk, rfl, m, hm⟩ := hrel
    have HM := Lib.hid hm
    by_cases hlt : k < g.length
    · obtain ⟨b1, o1, a1, cap1, rfl, c1, _, _, i1⟩ := HA.out k hlt
      obtain ⟨b2, o2, a2, cap2, rfl, c2, _, _, i2⟩ := HB.out k hlt
      have hr := HR.out k hlt
      have hki : (k : Int) < (g.length : Int) := by omega
      have HC : Hid (∀ n, Calls Try.prog 27 #[.slice a1 (g.getD k []).length cap1, .slice a2 (g.getD k []).length cap2] (w.drewN n) fun e w' => e = .returned (.bool true) ∧ ∃ m, w' = (w.drewN n).drewN m) :=
        Lib.hid fun n => sameInts_any _ a1 a2 cap1 cap2 _ (i1.below (below_drewN (Below.refl _ _) n)) (i2.below (below_drewN (Below.refl _ _) n)) (by omega)
      have HC : Hid (∀ n, Calls Try.prog 27 #[.slice a1 (g.getD k []).length cap1, .slice a2 (g.getD k []).length cap2] (wr.drewN n) fun e w' => e = .returned (.bool true) ∧ ∃ q, w' = (wr.drewN n).drewN q) :=
        Lib.hid fun n => by rw [HM.out, World.drewN_drewN]; exact HC.out (m + n)
      clear i1 i2
      generalize (g.getD k []).length = q at *
      have c1 : wr.cell? ⟨b1, o1 + k, none⟩ = some (.slice a1 q cap1) := by rw [hm]; exact c1
      have c2 : wr.cell? ⟨b2, o2 + k, none⟩ = some (.slice a2 q cap2) := by rw [hm]; exact c2
      clear hm
      go_wp2_with fail
      go_quiet ((go_at_call 27; exact Calls.quiet_of (HC.out _)))
      go_wp2_with fail
      go_roundw
      case rel => exact ⟨k + 1, by omega, by go_num, _, by rw [HM.out, World.drewN_drewN]⟩
      case measure => simp [intOf]; omega
    · have hk2 : k = g.length := by omega
      go_wp2_with fail
      go_ret
      exact ⟨rfl, below_drewN (Below.refl _ _) _⟩
end Go.Proofs.Ytahaoddilejpnaa
