/- What the law TimeSame holds in memory; the instructions in another order, in cells of their own. -/
import Derived.Test.YtccpjfppkahbmaaY1
import Derived.Test.YtccpjfppkahbmaaMI
import Derived.Test.YtccpjfppkahbmaaF3
namespace Go.Proofs.Ytccpjfppkahbmaa
open Go.RowKit PK

/-- The error and the instructions of Apply, in a row of its own. -/
def ApplyOwn (l : List Cd) (order : List Int) (w : World) (e : Ending) (w' : World) : Prop := (∃ v, e = .returned (.tuple #[v, .int .i64 (appE l order)]) ∧ w'.ownsRow w.heap.size 42 6 v (appL l order).length (encC (appL l order))) ∧ Below w.heap.size w w'
theorem appo_bad (l : List Cd) (order : List Int) (w w' : World) (v : Int) (hv : v = appE l order) (h : appE l order ≠ 0) (hb : Below w.heap.size w w') : ApplyOwn l order w (.returned (.tuple #[.slice none 0 0, .int .i64 v])) w' := by
  subst hv
  have e : appL l order = [] := if_neg h
  unfold ApplyOwn
  rw [e]
  exact ⟨⟨_, rfl, owns_nil _ _ _ _⟩, hb⟩
theorem appo_good (l : List Cd) (order : List Int) (w w' : World) (B : Nat) (v : Value) (h : appE l order = 0) (hB : w.heap.size ≤ B) (ho : w'.ownsRow B 42 6 v (applyL l order).length (encC (applyL l order))) (hb : Below w.heap.size w w') : ApplyOwn l order w (.returned (.tuple #[v, .int .i64 0])) w' := by
  have e : appL l order = applyL l order := if_pos h
  unfold ApplyOwn
  rw [e, h]
  exact ⟨⟨v, rfl, owns_base ho hB⟩, hb⟩
set_option maxHeartbeats 2000000 in
theorem Apply_own (l : List Cd) (a : Option Addr) (cap : Nat) (order : List Int) (oa : Option Addr) (ocap : Nat) (w : World) (hin : CdsIn w a l) (hlc : l.length ≤ cap) (hl : l.length ≤ 1099511627776) (ho : IntsIn w oa order) (hol : order.length ≤ 100000) :
    Calls Try.prog 21 #[.slice a l.length cap, .slice oa order.length ocap] w (ApplyOwn l order w) := by
  have HOr := Lib.hid (ordered_any l a cap order oa ocap w hin hl ho hol)
  have HIs := Lib.hid (fun (u : World) (hb : Below w.heap.size w u) h1 h2 => isOrder_any l a cap order oa ocap u (hin.below hb) hlc h1 h2 (ho.below hb) hol)
  have HAp := Lib.hid (fun (u : World) (hb : Below w.heap.size w u) h1 => apply_any l a cap order oa ocap u (hin.below hb) (ho.below hb) hol h1)
  have HBad := Lib.hid (appo_bad l order w)
  have HGood := Lib.hid (appo_good l order w)
  clear hin ho
  by_cases hz : ordE l order = 0
  · obtain ⟨h0, hp⟩ := ordE_zero hz
    obtain ⟨h1, h2⟩ := tErr_zero h0
    have HIs := Lib.hid (fun u hb => HIs.out u hb h1 h2)
    have HAp := Lib.hid (fun u hb => HAp.out u hb (fun k hk => permO_get hp hk))
    have HE : Hid (appE l order = if behindN l order l.length = true then 0 else 7) := Lib.hid (if_pos hz)
    rw [hz] at HOr
    clear h1 h2 hz h0 hp
    generalize behindN l order l.length = b at *
    cases b
    · have HE7 : Hid (appE l order = 7) := Lib.hid (by rw [HE.out]; rfl)
      have HB := Lib.hid (fun w' v hv => HBad.out w' v hv (by rw [HE7.out]; decide))
      clear HE HBad HGood HAp
      go_enter Try.func21, Try.ntmps21
      go_wp2_with fail
      refine HOr.out.mono ?_; rintro e w2 ⟨rfl, hb2⟩
      have HB2 := Lib.hid hb2
      clear hb2
      go_wp2_with fail
      refine (HIs.out _ HB2.out).mono ?_; rintro e w3 ⟨rfl, hb3⟩
      have HB3 := Lib.hid (HB2.out.trans (hb3.mono HB2.out.size))
      clear hb3
      go_wp2_with fail
      go_ret2
      exact HB.out _ _ HE7.out.symm HB3.out
    · have HE0 : Hid (appE l order = 0) := Lib.hid (by rw [HE.out]; rfl)
      have HG := Lib.hid (fun w' B v => HGood.out w' B v HE0.out)
      clear HE HBad HGood HE0
      go_enter Try.func21, Try.ntmps21
      go_wp2_with fail
      refine HOr.out.mono ?_; rintro e w2 ⟨rfl, hb2⟩
      have HB2 := Lib.hid hb2
      clear hb2
      go_wp2_with fail
      refine (HIs.out _ HB2.out).mono ?_; rintro e w3 ⟨rfl, hb3⟩
      have HB3 := Lib.hid (HB2.out.trans (hb3.mono HB2.out.size))
      clear hb3
      go_wp2_with fail
      refine (HAp.out _ HB3.out).mono ?_; rintro e w4 ⟨⟨v, rfl, hv⟩, hb4⟩
      have HV := Lib.hid hv
      have HB4 := Lib.hid (HB3.out.trans (hb4.mono HB3.out.size))
      clear hb4 hv
      go_wp2_with fail
      go_ret2
      exact HG.out _ _ _ HB3.out.size HV.out HB4.out
  · have HEq : Hid (appE l order = ordE l order) := Lib.hid (if_neg hz)
    have HB := Lib.hid (fun w' v hv => HBad.out w' v hv (by rw [HEq.out]; exact hz))
    clear HIs HGood HBad HAp
    generalize ordE l order = oe at *
    go_enter Try.func21, Try.ntmps21
    go_wp2_with fail
    refine HOr.out.mono ?_; rintro e w2 ⟨rfl, hb2⟩
    have HB2 := Lib.hid hb2
    clear hb2
    go_wp2_with fail
    go_ret2
    exact HB.out _ _ HEq.out.symm HB2.out
theorem prog_of {l : List Cd} (h : tErr l = 0) : progErr 200 [l ++ [haltC]] = 0 := by
  have h40 := (tErr_zero h).1
  cases ha : l.any outOp with
  | true => rw [tErr_out (by omega) ha] at h; cases h
  | false =>
    by_cases hp : progErr 200 [l ++ [haltC]] = 0
    · exact hp
    · rw [(tErr_in (by omega) ha).2 hp] at h; cases h
theorem runM_len (P : List (List Cd)) (fr to : Int) : ∀ (f : Nat) (s : Mach) (n : Nat), (runM P fr to f s n).1.length = s.mem.length
  | 0, s, n => rfl
  | f + 1, s, n => by
    have hw : ∀ m at0 many v, (wrF m at0 many v).length = m.length := fun m at0 many v => wrD_len m at0 v many
    cases h : stepM s (atC (atB P s.blk) s.pc) fr to n with
    | on s' =>
      rw [runM_on h, runM_len P fr to f s' (n + 1)]
      unfold stepM at h
      repeat' split at h
      all_goals first | (cases h; done) | (injection h with h; subst h; first | rfl | exact hw _ _ _ _)
    | out m e k t =>
      rw [runM_out h]
      unfold stepM at h
      repeat' split at h
      all_goals first | (cases h; done) | (injection h with h1 h2 h3 h4; subst h1; rfl)
/-- The stretch as it was, and in the other order. -/
def sideL (l M : List Cd) (k : Nat) : List Cd := if k = 0 then l else M
def memR (l M : List Cd) (mem : List Int) (k : Nat) : List Int := (runL (sideL l M k) mem).1
/-- The memories so far. -/
def MemsAt (w : World) (B : Nat) (v : Value) (l M : List Cd) (mem : List Int) (k : Nat) : Prop :=
  ∃ vals, w.ownsRow B 45 1 v k vals ∧ ∀ j, j < k → ∃ g c, vals[j]? = some (.slice (some ⟨g, 0, none⟩) mem.length c) ∧ BIn w (some ⟨g, 0, none⟩) (memR l M mem j) ∧ g < w.heap.size ∧ some g ≠ v.ownBlock
theorem MemsAt.start (w : World) (B : Nat) (l M : List Cd) (mem : List Int) : MemsAt w B (.slice none 0 0) l M mem 0 := ⟨[], owns_nil _ _ _ _, fun _ hj => absurd hj (Nat.not_lt_zero _)⟩
theorem MemsAt.below {w w' : World} {B : Nat} {v : Value} {l M : List Cd} {mem : List Int} {k : Nat} (h : MemsAt w B v l M mem k) (hb : Below w.heap.size w w') : MemsAt w' B v l M mem k := by
  obtain ⟨vals, ho, hr⟩ := h
  refine ⟨vals, owns_below ho hb, fun j hj => ?_⟩
  obtain ⟨g, c, h1, h2, h3, h4⟩ := hr j hj
  exact ⟨g, c, h1, h2.below hb, Nat.lt_of_lt_of_le h3 hb.size, h4⟩
theorem MemsAt.shape {w : World} {B : Nat} {v : Value} {l M : List Cd} {mem : List Int} {k : Nat} (h : MemsAt w B v l M mem k) : ∃ a c, v = .slice a k c := by
  obtain ⟨_, ho, _⟩ := h
  exact owns_shape ho
theorem memR_len (l M : List Cd) (mem : List Int) (k : Nat) : (memR l M mem k).length = mem.length := runM_len _ _ _ _ _ _
/-- One memory more. -/
theorem MemsAt.snoc {w w' : World} {B : Nat} {v v' : Value} {l M : List Cd} {mem : List Int} {k g c : Nat} {vals : List Value} (ho : w'.ownsRow B 45 1 v' (k + 1) (vals ++ [.slice (some ⟨g, 0, none⟩) mem.length c])) (hl : vals.length = k)
    (hr : ∀ j, j < k → ∃ g c, vals[j]? = some (.slice (some ⟨g, 0, none⟩) mem.length c) ∧ BIn w (some ⟨g, 0, none⟩) (memR l M mem j) ∧ g < w.heap.size ∧ some g ≠ v.ownBlock) (hg : w.grownBy w' v.ownBlock) (hat : v'.ownBlock = v.ownBlock ∨ v'.ownBlock = some w.heap.size)
    (hb : BIn w (some ⟨g, 0, none⟩) (memR l M mem k)) (hgs : g < w.heap.size) (hgn : some g ≠ v.ownBlock) : MemsAt w' B v' l M mem (k + 1) := by
  have hkeep : ∀ (g : Nat) (xs : List Int), BIn w (some ⟨g, 0, none⟩) xs → some g ≠ v.ownBlock → BIn w' (some ⟨g, 0, none⟩) xs := fun g xs hi hne j hj => by
    obtain ⟨b, off, e, hc⟩ := hi j hj
    refine ⟨b, off, e, cell_kept hc hg ?_⟩
    simp only [Option.some.injEq, Addr.mk.injEq, and_true] at e
    rw [← e.1]; exact hne
  have hnew : ∀ g, g < w.heap.size → some g ≠ v.ownBlock → g < w'.heap.size ∧ some g ≠ v'.ownBlock := fun g h1 h2 => ⟨Nat.lt_of_lt_of_le h1 hg.size, fun e => by
    rcases hat with h3 | h3
    · rw [h3] at e; exact h2 e
    · rw [h3] at e; cases e; omega⟩
  refine ⟨_, ho, fun j hj => ?_⟩
  by_cases e : j < k
  · obtain ⟨g2, c2, h1, h2, h3, h4⟩ := hr j e
    refine ⟨g2, c2, by rw [List.getElem?_append_left (by omega)]; exact h1, hkeep _ _ h2 h4, hnew g2 h3 h4⟩
  · obtain rfl : j = k := by omega
    refine ⟨g, c, ?_, hkeep _ _ hb hgn, hnew g hgs hgn⟩
    rw [← hl, List.getElem?_append_right (Nat.le_refl _)]
    simp
end Go.Proofs.Ytccpjfppkahbmaa
