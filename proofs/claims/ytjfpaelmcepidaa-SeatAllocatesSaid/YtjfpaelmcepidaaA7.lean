/- The walk of Clash of the document. -/
import Derived.Test.YtjfpaelmcepidaaA2
namespace Go.Proofs.Ytjfpaelmcepidaa.PK
open Go.RowKit Go.Maps

/-- A table of pairs. -/
def FndRow (w : World) (q rn : Nat) (F : Int × Int → Prop) : Prop := ∃ S : Nat → Bool, BRowF w q (rn * rn) S ∧ ∀ u v : Nat, u < rn → v < rn → (S (u * rn + v) = true ↔ F ((u : Int), (v : Int)))
theorem FndRow.congr {w : World} {q rn : Nat} {F F' : Int × Int → Prop} (h : FndRow w q rn F) (he : ∀ p, F p ↔ F' p) : FndRow w q rn F' := by
  obtain ⟨S, h1, h2⟩ := h
  exact ⟨S, h1, fun u v hu hv => (h2 u v hu hv).trans (he _)⟩
theorem pair_lt {u v rn : Nat} (hu : u < rn) (hv : v < rn) : u * rn + v < rn * rn := by
  have : (u + 1) * rn ≤ rn * rn := Nat.mul_le_mul_right _ hu
  rw [Nat.add_mul, Nat.one_mul] at this
  omega
theorem pair_inj {u v u' v' rn : Nat} (hv : v < rn) (hv' : v' < rn) (h : u * rn + v = u' * rn + v') : u = u' ∧ v = v' := by
  have hr : 0 < rn := by omega
  have h1 : (u * rn + v) / rn = u := by rw [Nat.add_comm, Nat.add_mul_div_right _ _ hr, Nat.div_eq_of_lt hv]; omega
  have h2 : (u' * rn + v') / rn = u' := by rw [Nat.add_comm, Nat.add_mul_div_right _ _ hr, Nat.div_eq_of_lt hv']; omega
  have : u = u' := by rw [← h1, h, h2]
  subst this
  exact ⟨rfl, by omega⟩
theorem FndRow.put {w : World} {q rn : Nat} {F : Int × Int → Prop} (h : FndRow w q rn F) {u v : Nat} (_ : u < rn) (hv : v < rn) : FndRow (w.setCell ⟨q, u * rn + v, none⟩ (.bool true)) q rn (fun p => p = ((u : Int), (v : Int)) ∨ F p) := by
  obtain ⟨S, h1, h2⟩ := h
  refine ⟨_, h1.put (u * rn + v) true, fun u' v' hu' hv' => ?_⟩
  unfold stB
  by_cases c : u' * rn + v' = u * rn + v
  · obtain ⟨rfl, rfl⟩ := pair_inj hv' hv c
    simp
  · rw [if_neg c, h2 u' v' hu' hv']
    constructor
    · exact .inr
    · rintro (e | e)
      · simp only [Prod.mk.injEq] at e
        exact absurd (by rw [show u' = u by omega, show v' = v by omega]) c
      · exact e
/-- How things stand among the instructions. -/
structure RcJ (w1 : World) (qf qn q rn : Nat) (x : Cd) (R : Nat → Bool) (F : Int × Int → Prop) (wr : World) : Prop where
  fnd : FndRow wr qf rn F
  liv : BRowF wr qn rn R
  low : Below w1.heap.size w1 wr
  cx : CdAt wr q 0 x
theorem FndRow.below {w w' : World} {q rn : Nat} {F : Int × Int → Prop} (h : FndRow w q rn F) (hb : Below w.heap.size w w') : FndRow w' q rn F := by
  obtain ⟨S, h1, h2⟩ := h
  exact ⟨S, TRow.below h1 hb, h2⟩
theorem FndRow.save {w w' : World} {q p rn : Nat} {F : Int × Int → Prop} (h : FndRow w q rn F) (hb : Save p w w') (hq : q ≠ p) : FndRow w' q rn F := by
  obtain ⟨S, h1, h2⟩ := h
  exact ⟨S, TRow.save h1 hb hq, h2⟩
section
variable {w1 : World} {qf qn q rn : Nat} {x : Cd} {R : Nat → Bool} {F : Int × Int → Prop} {wr : World}
theorem RcJ.below {w' : World} (h : RcJ w1 qf qn q rn x R F wr) (hb : Below wr.heap.size wr w') : RcJ w1 qf qn q rn x R F w' :=
  ⟨h.fnd.below hb, TRow.below h.liv hb, h.low.trans (hb.mono h.low.size), h.cx.keep hb⟩
theorem RcJ.putN (h : RcJ w1 qf qn q rn x R F wr) (hf : qf ≠ qn) (hq : q ≠ qn) (hn : w1.heap.size ≤ qn) (v : Nat) (b : Bool) : RcJ w1 qf qn q rn x (stB R v b) F (wr.setCell ⟨qn, v, none⟩ (.bool b)) :=
  ⟨h.fnd.save (Save.set _ _ _ _) hf, BRowF.put h.liv v b, h.low.setCell hn _, h.cx.save (Save.set _ _ _ _) hq⟩
theorem RcJ.putF (h : RcJ w1 qf qn q rn x R F wr) (hf : qf ≠ qn) (hq : q ≠ qf) (hn : w1.heap.size ≤ qf) {u v : Nat} (hu : u < rn) (hv : v < rn) : RcJ w1 qf qn q rn x R (fun p => p = ((u : Int), (v : Int)) ∨ F p) (wr.setCell ⟨qf, u * rn + v, none⟩ (.bool true)) :=
  ⟨h.fnd.put hu hv, TRow.save h.liv (Save.set _ _ _ _) hf.symm, h.low.setCell hn _, h.cx.save (Save.set _ _ _ _) hq⟩
theorem RcJ.congr {R' : Nat → Bool} {F' : Int × Int → Prop} (h : RcJ w1 qf qn q rn x R F wr) (hR : ∀ r, r < rn → R r = R' r) (hF : ∀ p, F p ↔ F' p) : RcJ w1 qf qn q rn x R' F' wr :=
  ⟨h.fnd.congr hF, BRowF.congr h.liv hR, h.low, h.cx⟩
end
/-- How things stand ahead of an instruction. -/
structure RcSt (ls : List (List Cd)) (inn : Int → Int → Bool) (w1 : World) (qf qn rn b k : Nat) (wr : World) : Prop where
  fnd : FndRow wr qf rn (Fnd ls inn b k)
  liv : BRowF wr qn rn fun r => liveL ((atB ls b).drop k) inn r
  low : Below w1.heap.size w1 wr
  big : w1.heap.size ≤ wr.heap.size
theorem rLive_is (regs : Int) (ls : List (List Cd)) (L : List (List Int)) (bl : Option Addr) (cap : Nat) (w : World) (hin : BlkIn w bl ls) (hv : progErrW regs ls = 0) (hlm : ∀ k, k < ls.length → (atB ls k).length ≤ 9223372036854775807) (hL : LiveOf ls regs.toNat L) :
    Calls Try.prog 35 #[.agg #[.int .i64 regs, .slice bl ls.length cap]] w fun e w' => (∃ a c, e = .returned (.tuple #[.slice a L.length c, .int .i64 0]) ∧ RowsIn w' a L) ∧ Below w.heap.size w w' :=
  (rLive_ok regs ls bl cap w hin hv hlm).mono fun e w' h => by
    obtain ⟨a, c, L', rfl, h1, h2, h3⟩ := h.shape
    obtain rfl := (h2.1 hv).unique hL
    rw [hv]
    exact ⟨⟨a, c, rfl, h1⟩, h3⟩
theorem fnd_new {ls : List (List Cd)} {inn : Int → Int → Bool} {w : World} {q rn : Nat} (h : BRowF w q (rn * rn) fun _ => false) : FndRow w q rn (Fnd ls inn 0 (atB ls 0).length) :=
  ⟨_, h, fun _ _ _ _ => ⟨fun h => (by cases h), fun h => (Fnd.start _ _ _ h).elim⟩⟩
/-- What has been found among the first registers. -/
def FndR (F : Int × Int → Prop) (x : Cd) (B : Int → Bool) (m : Nat) (p : Int × Int) : Prop := F p ∨ ∃ r : Nat, r < m ∧ okC x B r = true ∧ p = (min (r : Int) x.d, max (r : Int) x.d)
theorem FndR.zero (F : Int × Int → Prop) (x : Cd) (B : Int → Bool) (p : Int × Int) : F p ↔ FndR F x B 0 p := ⟨.inl, fun h => h.elim id fun ⟨_, h, _⟩ => absurd h (Nat.not_lt_zero _)⟩
theorem FndR.skip {F : Int × Int → Prop} {x : Cd} {B : Int → Bool} {m : Nat} (h : okC x B m = false) (p : Int × Int) : FndR F x B m p ↔ FndR F x B (m + 1) p := by
  constructor
  · rintro (h1 | ⟨r, h1, h2⟩)
    · exact .inl h1
    · exact .inr ⟨r, by omega, h2⟩
  · rintro (h1 | ⟨r, h1, h2, h3⟩)
    · exact .inl h1
    · by_cases c : r = m
      · subst c; rw [h] at h2; cases h2
      · exact .inr ⟨r, by omega, h2, h3⟩
theorem FndR.put {F : Int × Int → Prop} {x : Cd} {B : Int → Bool} {m u v : Nat} (h : okC x B m = true) (hu : min (m : Int) x.d = u) (hv : max (m : Int) x.d = v) (p : Int × Int) : (p = ((u : Int), (v : Int)) ∨ FndR F x B m p) ↔ FndR F x B (m + 1) p := by
  rw [← hu, ← hv]
  constructor
  · rintro (h1 | h1 | ⟨r, h1, h2⟩)
    · exact .inr ⟨m, by omega, h, h1⟩
    · exact .inl h1
    · exact .inr ⟨r, by omega, h2⟩
  · rintro (h1 | ⟨r, h1, h2, h3⟩)
    · exact .inr (.inl h1)
    · by_cases c : r = m
      · subst c; exact .inl h3
      · exact .inr (.inr ⟨r, by omega, h2, h3⟩)
theorem FndR.fin {F : Int × Int → Prop} {x : Cd} {B : Int → Bool} {rn : Nat} (hd : fD x.op = true) (hB : ∀ r, B r = true → 0 ≤ r ∧ r < rn) (p : Int × Int) : FndR F x B rn p ↔ (F p ∨ PairC x B p) := by
  unfold FndR PairC
  constructor
  · rintro (h | ⟨r, _, h1, h2⟩)
    · exact .inl h
    · exact .inr ⟨hd, r, h1, h2⟩
  · rintro (h | ⟨_, r, h1, h2⟩)
    · exact .inl h
    · have h3 := h1
      unfold okC at h3; simp at h3
      have h4 := hB r h3.1.1
      exact .inr ⟨r.toNat, by omega, by rw [show ((r.toNat : Nat) : Int) = r by omega]; exact h1, by rw [show ((r.toNat : Nat) : Int) = r by omega]; exact h2⟩
/-- A store of a number of a list. -/
def listN (R : Nat → Bool) (l : List Int) (m : Nat) : Nat → Bool := fun r => R r || decide ((r : Int) ∈ l.take m)
theorem listN_zero {R : Nat → Bool} {l : List Int} (r : Nat) : R r = listN R l 0 r := by unfold listN; simp
theorem listN_put {R : Nat → Bool} {l : List Int} {m rn : Nat} (h : m < l.length) (he : l.getD m 0 = rn) (r : Nat) : stB (listN R l m) rn true r = listN R l (m + 1) r := by
  unfold stB listN
  have h2 := mem_take_succ h (r : Int)
  rw [he] at h2
  by_cases c : r = rn
  · subst c
    rw [if_pos rfl, decide_eq_true (h2.2 (.inl rfl)), Bool.or_true]
  · rw [if_neg c]
    congr 1
    rw [decide_eq_decide]
    exact ⟨fun h => h2.2 (.inr h), fun h => (h2.1 h).resolve_left (by omega)⟩
/-- The pairs that have been listed. -/
structure Upto (CC : Int × Int → Prop) (a c : Int) (l : StrL) : Prop where
  sorted : l.Pairwise fun p q => ltH p q = true
  mem : ∀ p, p ∈ l ↔ CC p ∧ (p.1 < a ∨ (p.1 = a ∧ p.2 < c))
section
variable {CC : Int × Int → Prop} {rn : Nat} (hCC : ∀ p, CC p → 0 ≤ p.1 ∧ p.1 < p.2 ∧ p.2 < rn)
include hCC
theorem Upto.start : Upto CC 0 0 [] := ⟨List.Pairwise.nil, fun p => ⟨fun h => (by cases h), fun ⟨h, h1⟩ => (by have := hCC p h; omega)⟩⟩
theorem Upto.row {a : Int} {l : StrL} (h : Upto CC a 0 l) : Upto CC a (a + 1) l := ⟨h.sorted, fun p => (h.mem p).trans ⟨fun ⟨h1, h2⟩ => ⟨h1, by have := hCC p h1; omega⟩, fun ⟨h1, h2⟩ => ⟨h1, by have := hCC p h1; omega⟩⟩⟩
theorem Upto.next {a : Int} {l : StrL} (h : Upto CC a rn l) : Upto CC (a + 1) 0 l := ⟨h.sorted, fun p => (h.mem p).trans ⟨fun ⟨h1, h2⟩ => ⟨h1, by have := hCC p h1; omega⟩, fun ⟨h1, h2⟩ => ⟨h1, by have := hCC p h1; omega⟩⟩⟩
theorem Upto.fin {l : StrL} (h : Upto CC rn 0 l) (p : Int × Int) : p ∈ l ↔ CC p := (h.mem p).trans ⟨fun ⟨h1, _⟩ => h1, fun h1 => ⟨h1, by have := hCC p h1; omega⟩⟩
theorem Upto.few {a c : Int} {l : StrL} (h : Upto CC a c l) (hr : rn ≤ 200) : l.length ≤ 1000000 := by
  have hn : l.Nodup := h.sorted.imp fun {p q} h e => by subst e; have := ltH_iff.1 h; omega
  have := nodup_le hn (N := allP) fun p hp => allP_mem p (by
    have h1 := hCC p ((h.mem p).1 hp).1
    unfold PV KV; omega)
  rwa [allP_million] at this
end
theorem Upto.skip {CC : Int × Int → Prop} {a c : Int} {l : StrL} (h : Upto CC a c l) (hn : ¬ CC (a, c)) : Upto CC a (c + 1) l := ⟨h.sorted, fun p => (h.mem p).trans ⟨fun ⟨h1, h2⟩ => ⟨h1, by omega⟩, fun ⟨h1, h2⟩ => ⟨h1, by
  by_cases e : p.1 = a ∧ p.2 = c
  · exact absurd (by rw [← e.1, ← e.2]; exact h1) hn
  · omega⟩⟩⟩
theorem Upto.put {CC : Int × Int → Prop} {a c : Int} {l : StrL} (h : Upto CC a c l) (hc : CC (a, c)) : Upto CC a (c + 1) (l ++ [(a, c)]) := by
  refine ⟨List.pairwise_append.2 ⟨h.sorted, List.pairwise_singleton _ _, fun p hp q hq => ?_⟩, fun p => ?_⟩
  · obtain rfl : q = (a, c) := by simpa using hq
    have := ((h.mem p).1 hp).2
    exact ltH_iff.2 (by simpa using this)
  · rw [List.mem_append, List.mem_singleton, h.mem]
    constructor
    · rintro (⟨h1, h2⟩ | rfl)
      · exact ⟨h1, by omega⟩
      · exact ⟨hc, .inr ⟨rfl, by simp; omega⟩⟩
    · rintro ⟨h1, h2⟩
      by_cases e : p.1 = a ∧ p.2 = c
      · exact .inr (Prod.ext e.1 e.2)
      · exact .inl ⟨h1, by omega⟩
theorem clash_in {ls : List (List Cd)} {inn : Int → Int → Bool} {regs n : Int} (hi : ∀ b r, inn b r = true → 0 ≤ r ∧ r < regs) (hu : ∀ b, b < ls.length → ∀ x ∈ atB ls b, ∀ u ∈ usesL x, 0 ≤ u ∧ u < regs)
    (hc : ∀ k i, k < ls.length → i < (atB ls k).length → isCodeB (atC (atB ls k) i) regs n = true) (p : Int × Int) (h : Clashes ls inn p) : 0 ≤ p.1 ∧ p.1 < p.2 ∧ p.2 < regs := by
  have h2 := Fnd.lt h
  obtain ⟨b, i, h0, _, h1⟩ := h
  have hb : b < ls.length := by
    rcases Nat.lt_or_ge b ls.length with h | h
    · exact h
    · unfold atB at h0
      rw [List.getD_eq_getElem?_getD, List.getElem?_eq_none h] at h0
      exact absurd h0 (Nat.not_lt_zero _)
  have := h1.inR (regs := regs) (fun r hr => behB_in hi (hu b hb) h0 r hr) (code_parts (hc b i hb h0)).2.1
  unfold InR at this
  omega
theorem listN_uses {x : Cd} {B : Int → Bool} (r : Nat) : listN (fun r : Nat => !defB x r && B r) (usesL x) (usesL x).length r = (usesB x r || (!defB x r && B r)) := by
  unfold listN usesB
  rw [List.take_length, Bool.or_comm]
  congr 1
  rw [Bool.eq_iff_iff, List.contains_iff_mem, decide_eq_true_iff]
set_option maxRecDepth 100000 in
set_option maxHeartbeats 8000000 in
theorem rClash_ok (regs : Int) (ls : List (List Cd)) (L : List (List Int)) (bl : Option Addr) (cap : Nat) (w : World) (hv : progErrW regs ls = 0) (hlm : ∀ k, k < ls.length → (atB ls k).length ≤ 9223372036854775807) (hL : LiveOf ls regs.toNat L) (hin : BlkIn w bl ls) :
    Calls Try.prog 14 #[.agg #[.int .i64 regs, .slice bl ls.length cap]] w (ClPost regs ls L w) := by
  obtain ⟨hbig, hcode, _⟩ := prog_partsW hv
  have hb2 : 0 ≤ regs ∧ regs ≤ 200 ∧ 1 ≤ ls.length ∧ ls.length ≤ 400 := by unfold tooBigW at hbig; omega
  have HLive := Lib.hid (fun u (h : BlkIn u bl ls) => rLive_is regs ls L bl cap u h hv hlm hL)
  have HI := Lib.hid hin; have HC := Lib.hid hcode; have HLm := Lib.hid hlm; have HLv := Lib.hid hL
  have hLlen := hL.len
  have HP : Hid (∀ w' a c l, IsClash ls L l → l.length ≤ 1000000 → StrIn w' a l → Below w.heap.size w w' → ClPost regs ls L w (.returned (.tuple #[.slice a l.length c, .int .i64 0])) w') := Lib.hid fun w' a c l h1 h2 h3 h4 => ⟨by rw [if_pos hv]; exact ⟨a, c, l, rfl, h1, h2, h3⟩, h4⟩
  have HInn : Hid (∀ b r, tabI L b r = true → 0 ≤ r ∧ r < regs) := Lib.hid (tabI_in HLv.out hb2.1)
  have HTab : Hid (∀ (b : Nat) r, tabI L b r = decide (r ∈ L.getD b [])) := Lib.hid fun b r => rfl
  have HLin : Hid (∀ b, b < ls.length → ∀ x ∈ atB ls b, ∀ u ∈ usesL x, 0 ≤ u ∧ u < regs) := Lib.hid fun b hb x hx => by
    obtain ⟨j, hj, rfl⟩ := List.getElem_of_mem hx
    exact usesL_in (by have := HC.out b j hb hj; rwa [atC_get hj] at this)
  have HRowL : Hid (∀ b : Nat, (L.getD b []).length ≤ 200) := Lib.hid fun b => Nat.le_trans (HLv.out.row b) (by omega)
  obtain ⟨rn, rfl⟩ : ∃ rn : Nat, regs = rn := ⟨regs.toNat, by omega⟩
  obtain ⟨i0, hi, hz0, hz1, hz2⟩ := info_parts Try.infoPair
  obtain ⟨N, hN⟩ : ∃ N, rn * rn = N := ⟨_, rfl⟩
  have hNb : N ≤ 40000 := by
    have : rn * rn ≤ 200 * 200 := Nat.mul_le_mul (by omega) (by omega)
    omega
  have hrr : (rn : Int) * (rn : Int) = (N : Int) := by rw [← hN]; simp
  have HN := Lib.hid hN
  have HMkN := Lib.hid (run_make_row' (P := Try.prog) 83 4 (.bool false) 1 Try.underlying83 infoBool rfl .i64 .i64 N (by omega) (by omega))
  have HMkR := Lib.hid (run_make_row' (P := Try.prog) 83 4 (.bool false) 1 Try.underlying83 infoBool rfl .i64 .i64 rn (by omega) (by omega))
  generalize ClPost rn ls L w = PP at *
  clear hin hcode hlm hL hbig hv hN
  generalize hinn : tabI L = inn at *
  have HInnE := Lib.hid hinn
  clear hinn
  go_enter Try.func14, Try.ntmps14
  go_upto_region 1 with (fail)
  generalize hw0 : w.alloc _ = w0
  have hb0 : Below w.heap.size w w0 := by rw [← hw0]; exact (Below.refl _ _).alloc (Nat.le_refl _) _
  have h0 : w0.cell? ⟨w.heap.size, 0, none⟩ = some (.int .i64 rn) := by subst hw0; simp [go_sem]
  have h1 : w0.cell? ⟨w.heap.size, 1, none⟩ = some (.slice bl ls.length cap) := by subst hw0; simp [go_sem]
  have HB0 := Lib.hid hb0
  clear hw0 hb0
  go_wp2_with fail
  refine (HLive.out w0 (HI.out.below HB0.out)).mono ?_; rintro e w1 ⟨⟨la, lc, rfl, hrows⟩, hb2'⟩
  have HRows := Lib.hid hrows
  have HB1 : Hid (Below w.heap.size w w1) := Lib.hid (HB0.out.trans (hb2'.mono HB0.out.size))
  have k0 := keep h0 hb2'; have k1 := keep h1 hb2'
  clear hrows hb2' h0 h1
  have hmk := HMkN.out
  go_upto_region 5 with (fail)
  clear hmk
  have HQz : Hid (BRowF (w1.alloc (.cells (madeCells #[.bool false] N) 4)) w1.heap.size (rn * rn) fun _ => false) := Lib.hid (by
    unfold BRowF TRow
    rw [heap_at _ _ _ rfl, valArr_made, HN.out])
  have HB2 : Hid (Below w1.heap.size w1 (w1.alloc (.cells (madeCells #[.bool false] N) 4))) := Lib.hid ((Below.refl _ _).alloc (Nat.le_refl _) _)
  generalize hw2 : w1.alloc (.cells (madeCells #[.bool false] N) 4) = w2 at *
  clear hw2
  obtain ⟨qf, hqf⟩ : ∃ qf, w1.heap.size = qf := ⟨_, rfl⟩
  have HFn : Hid (FndRow w2 qf rn (Fnd ls inn 0 (atB ls 0).length)) := Lib.hid (by rw [← hqf]; exact fnd_new HQz.out)
  have HQe := Lib.hid hqf
  have HQf : Hid (w1.heap.size ≤ qf) := Lib.hid (by omega)
  rw [hqf]
  clear hqf
  go_wp2_with fail
  go_loopw [7] (fun i wr => ∃ b : Nat, b ≤ ls.length ∧ i = .int .i64 b ∧ FndRow wr qf rn (Fnd ls inn b (atB ls b).length) ∧ Below w1.heap.size w1 wr) (fun i _ => ls.length - (intOf i).toNat)
  case atStart => exact ⟨0, Nat.zero_le _, rfl, HFn.out, HB2.out⟩
  case round =>
    obtain ⟨b, hb, rfl, hfnd, hlow⟩ := hrel
    have p0 := keep k0 hlow; have p1 := keep k1 hlow
    by_cases hlt : b < ls.length
    rotate_left
    · obtain rfl : b = ls.length := by omega
      obtain ⟨wo, rfl⟩ : ∃ wo : World, wo = wr := ⟨_, rfl⟩
      have HCl : Hid (FndRow wo qf rn (Clashes ls inn)) := Lib.hid hfnd
      have HCC := Lib.hid (fun p => clash_in HInn.out HLin.out HC.out p)
      have HIs : Hid (∀ l, Upto (Clashes ls inn) rn 0 l → IsClash ls L l) := Lib.hid fun l h => ⟨h.sorted, fun p => by rw [HInnE.out]; exact h.fin HCC.out p⟩
      have HLow := Lib.hid hlow
      have p2 := keep p0 (Below.refl _ _)
      clear hfnd hlow
      generalize Clashes ls inn = CC at *
      go_wp2_with fail
      have HBe : Hid (w.heap.size ≤ wo.heap.size) := Lib.hid (by have := HLow.out.size; have := HB1.out.size; omega)
      go_loopw [19, 20] (fun v i wq => ∃ (a : Nat) (l : StrL), a ≤ rn ∧ i = .int .i64 a ∧ Upto CC a 0 l ∧ wq.ownsRow wo.heap.size 79 2 v l.length (encH l) ∧ Below wo.heap.size wo wq) (fun _ i _ => rn - (intOf i).toNat)
      case atStart => exact ⟨0, [], Nat.zero_le _, rfl, Upto.start HCC.out, owns_nil _ _ _ _, Below.refl _ _⟩
      case round =>
        obtain ⟨a, l, ha, rfl, hup, ho, hbq⟩ := hrel
        have q0 := keep p0 hbq
        have HUp := Lib.hid hup; have HO := Lib.hid ho; have HBq := Lib.hid hbq
        clear hup ho hbq
        by_cases hal : a < rn
        rotate_left
        · obtain rfl : a = rn := by omega
          obtain ⟨va, vc, rfl, hs⟩ := strIn_of_owns HO.out
          have HS := Lib.hid hs
          clear hs
          go_wp2_with fail
          exact HP.out _ _ _ _ (HIs.out l HUp.out) (HUp.out.few HCC.out (by omega)) HS.out (HB1.out.trans (HLow.out.trans (HBq.out.mono HLow.out.size) |>.mono HB1.out.size))
        have hai : (a : Int) < (rn : Int) := by omega
        go_wp2_with fail
        go_loopw [19, 21] (fun v i wq => ∃ (c : Nat) (l : StrL), c ≤ rn ∧ a < c ∧ i = .int .i64 c ∧ Upto CC a c l ∧ wq.ownsRow wo.heap.size 79 2 v l.length (encH l) ∧ Below wo.heap.size wo wq) (fun _ i _ => rn - (intOf i).toNat)
        case atStart => exact ⟨a + 1, l, by omega, by omega, by go_num, HUp.out.row HCC.out, HO.out, HBq.out⟩
        case round =>
          obtain ⟨c, l2, hc, hac, rfl, hup2, ho2, hbq2⟩ := hrel
          have q2 := keep p0 hbq2
          by_cases hcl : c < rn
          rotate_left
          · obtain rfl : c = rn := by omega
            have HUp2 := Lib.hid (hup2.next HCC.out); have HO2 := Lib.hid ho2; have HBq2 := Lib.hid hbq2
            clear hup2 ho2 hbq2
            go_wp2_with fail
            go_roundw
            case rel => exact ⟨a + 1, l2, by omega, by go_num, HUp2.out, HO2.out, HBq2.out⟩
            case measure => simp [intOf]; omega
          have hci : (c : Int) < (rn : Int) := by omega
          have hfew := hup2.few HCC.out (by omega)
          obtain ⟨S, hS, hSC⟩ := HCl.out
          have hSac := hSC a c hal hcl
          obtain ⟨j, hj⟩ : ∃ j, a * rn + c = j := ⟨_, rfl⟩
          have hjl : j < N := by rw [← HN.out, ← hj]; exact pair_lt hal hcl
          have hcj : wr.cell? ⟨qf, j, none⟩ = some (.bool (S j)) := keep (TRow.cell hS (by rw [HN.out]; exact hjl)) hbq2
          have hij : (a : Int) * (rn : Int) + (c : Int) = (j : Int) := by rw [← hj]; simp
          have hm0 : 0 ≤ (a : Int) * (rn : Int) := Int.mul_nonneg (by omega) (by omega)
          have hm1 : (a : Int) * (rn : Int) ≤ 40000 := by omega
          rw [hj] at hSac
          clear hj hS hSC
          cases hb : S j
          · have HUp2 := Lib.hid (hup2.skip (by rw [← hSac, hb]; decide)); have HO2 := Lib.hid ho2; have HBq2 := Lib.hid hbq2
            rw [hb] at hcj
            clear hb hup2 ho2 hbq2 hSac
            go_wp2_with fail
            go_roundw
            case rel => exact ⟨c + 1, l2, by omega, by omega, by go_num, HUp2.out, HO2.out, HBq2.out⟩
            case measure => simp [intOf]; omega
          · have HUp2 := Lib.hid (hup2.put (hSac.1 hb)); have HO2 := Lib.hid ho2; have HBq2 := Lib.hid hbq2
            rw [hb] at hcj
            obtain ⟨a0, c0, rfl⟩ := owns_shape ho2
            clear hb hup2 ho2 hbq2 hSac
            go_wp2_with (at_builtin; refine wpList_append_own _ rfl _ _ 40 rfl wo.heap.size 79 i0 (.agg #[.int .i64 0, .int .i64 0]) 2 16 Try.underlying40 hi hz0 hz1 hz2 rfl (by decide) _ _ _ rfl (HO2.out.alloc _) ⟨wr.heap.size, 0, none⟩ 1 1 [.int .i64 (a : Int), .int .i64 (c : Int)] rfl rfl (cell_two_at _ _ _ _) (one_two _ _) (by unfold maxLen; omega) (by omega) (by have := HBq2.out.size; simp; omega) ?_; intro v' w5 hown5 hgrow _)
            have HO5 : Hid (w5.ownsRow wo.heap.size 79 2 v' (l2 ++ [((a : Int), (c : Int))]).length (encH (l2 ++ [((a : Int), (c : Int))]))) := Lib.hid (by rw [encH_snoc]; simpa using hown5)
            have hne5 : ∀ g, (Value.slice a0 l2.length c0).ownBlock = some g → wo.heap.size ≤ g := fun g hg => (owns_block HO2.out hg).1
            have HB5 : Hid (Below wo.heap.size wo w5) := Lib.hid ((HBq2.out.alloc HBq2.out.size _).grown hgrow (by have := HBq2.out.size; simp; omega) hne5)
            clear hown5 hgrow hne5
            go_roundw
            case rel => exact ⟨c + 1, _, by omega, by omega, by go_num, HUp2.out, HO5.out, HB5.out⟩
            case measure => simp [intOf]; omega
    have hbi : (b : Int) < (ls.length : Int) := by omega
    have hlb := HLm.out b hlt
    obtain ⟨cb, coff, ca, cc, hbe, hcell0, hcds⟩ := (HI.out.below HB1.out) b hlt
    have hcell := keep hcell0 hlow
    have HCell0 := Lib.hid hcell0
    have HCds := Lib.hid hcds; have HFnd := Lib.hid hfnd; have HLow := Lib.hid hlow
    subst hbe
    clear hfnd hlow hcell0 hcds
    generalize hm : (atB ls b).length = m at *
    have HM := Lib.hid hm; clear hm
    have hmk := HMkR.out
    go_upto_region 9 with (fail)
    clear hmk
    have hqn0 : qf ≠ wr.heap.size := by obtain ⟨S, hS, _⟩ := HFnd.out; have := lt_of_block hS; omega
    have hba : Below wr.heap.size wr (wr.alloc (.cells (madeCells #[.bool false] rn) 4)) := (Below.refl _ _).alloc (Nat.le_refl _) _
    have HF3 := Lib.hid (HFnd.out.below hba)
    have HL3 : Hid (BRowF (wr.alloc (.cells (madeCells #[.bool false] rn) 4)) wr.heap.size rn fun _ => false) := Lib.hid (by
      unfold BRowF TRow
      rw [heap_at _ _ _ rfl, valArr_made])
    have HB3 : Hid (Below w1.heap.size w1 (wr.alloc (.cells (madeCells #[.bool false] rn) 4))) := Lib.hid (HLow.out.alloc HLow.out.size _)
    have HQn : Hid (w1.heap.size ≤ wr.heap.size) := Lib.hid HLow.out.size
    have hfn := hqn0
    have q1 := keep p1 hba; have qcell := keep hcell hba
    clear hcell p0 p1 hqn0 hba
    generalize wr.alloc (.cells (madeCells #[.bool false] rn) 4) = w3 at *
    generalize wr.heap.size = qn at *
    go_wp2_with fail
    clear q1 qcell
    go_loopw [9] (fun i wr => ∃ k : Nat, k ≤ m ∧ i = .int .i64 ((k : Int) - 1) ∧ RcSt ls inn w1 qf qn rn b k wr) (fun i _ => (intOf i + 1).toNat)
    case atStart => exact ⟨m, Nat.le_refl _, rfl, HF3.out, BRowF.congr HL3.out fun r _ => (by rw [← HM.out, List.drop_length]; simp [liveL]), HB3.out, HB3.out.size⟩
    case round =>
      obtain ⟨k, hk, hj, hst⟩ := hrel
      by_cases hk0 : k = 0
      · subst hk0
        have hj2 : u9 = .int .i64 (-1) := by rw [hj]; rfl
        subst hj2
        have HE : Hid (FndRow wr qf rn (Fnd ls inn (b + 1) (atB ls (b + 1)).length)) := Lib.hid (hst.fnd.congr fun p => (Fnd.turn ls inn b p).symm)
        have HS := Lib.hid hst.low
        clear hst hj
        go_wp2_with fail
        go_roundw
        case rel => exact ⟨b + 1, by omega, by go_num, HE.out, HS.out⟩
        case measure => simp [intOf]; omega
      obtain ⟨i, rfl⟩ : ∃ i, k = i + 1 := ⟨k - 1, by omega⟩
      have hj2 : u9 = .int .i64 (i : Int) := by rw [hj]; congr 1; omega
      subst hj2
      have hil : i < m := by omega
      have hii : (i : Int) < (m : Int) := by omega
      obtain ⟨xb, xoff, hxe, hx⟩ := HCds.out i (by rw [HM.out]; exact hil)
      have hx' : CdAt wr xb (xoff + i * 6) (atC (atB ls b) i) := hx.keep hst.low
      have hX := HC.out b i hlt (by rw [HM.out]; exact hil)
      have HXs : Hid (∀ t ∈ usesL (atC (atB ls b) i), 0 ≤ t ∧ t < (rn : Int)) := Lib.hid (usesL_in hX)
      have HStep : Hid (∀ p, _ ↔ Fnd ls inn b i p) := Lib.hid fun p => (Fnd.step (by rw [HM.out]; exact hil) p).symm
      have HBN : Hid (∀ r, liveL ((atB ls b).drop i) inn r = _) := Lib.hid fun r => behB_next (by rw [HM.out]; exact hil) inn r
      have HBe : Hid (∀ r, behB (atB ls b) i inn r = (liveL ((atB ls b).drop (i + 1)) inn r || (fT (atC (atB ls b) i).op && inn (atC (atB ls b) i).to r))) := Lib.hid fun r => rfl
      have HBin2 : Hid (∀ r, behB (atB ls b) i inn r = true → 0 ≤ r ∧ r < (rn : Int)) := Lib.hid fun r hr => behB_in HInn.out (HLin.out b hlt) (by rw [HM.out]; exact hil) r hr
      have HSt := Lib.hid hst
      have hcp := code_parts hX
      have HX4 : Hid (isCodeB (atC (atB ls b) i) 200 400 = true) := Lib.hid (isCode_big hX hb2.2.1 (by omega))
      have p0 := keep k0 hst.low; have p1 := keep k1 hst.low; have hcell := keep HCell0.out hst.low
      subst hxe
      obtain ⟨x, hxx⟩ : ∃ x, atC (atB ls b) i = x := ⟨_, rfl⟩
      rw [hxx] at hx' hcp HX4 HXs HStep HBN HBe
      clear hst hj hX hx hxx
      obtain ⟨x0, x1, x2, x3, x4, x5⟩ := hx'
      have HTo := Lib.hid hcp.2.2.2.2.2.2.2.1
      have HDr := Lib.hid hcp.2.1
      have HDef := Lib.hid (rDefines_ok x HX4.out)
      have HUse := Lib.hid (rUses_ok x HX4.out)
      go_upto_region 13 with (fail)
      have hqf2 : wr.heap.size ≠ qf := by obtain ⟨S, hS, _⟩ := HSt.out.fnd; have := lt_of_block hS; omega
      have hqn : wr.heap.size ≠ qn := by have := lt_of_block HSt.out.liv; omega
      have hba : Below wr.heap.size wr (wr.alloc (.cells #[.int .i64 x.op, .int .i64 x.d, .int .i64 x.a, .int .i64 x.b, .int .u32 x.im, .int .i64 x.to] 68)) := (Below.refl _ _).alloc (Nat.le_refl _) _
      have HJ4 : Hid (RcJ w1 qf qn wr.heap.size rn x (fun r => liveL ((atB ls b).drop (i + 1)) inn r) (Fnd ls inn b (i + 1)) (wr.alloc (.cells #[.int .i64 x.op, .int .i64 x.d, .int .i64 x.a, .int .i64 x.b, .int .u32 x.im, .int .i64 x.to] 68))) := Lib.hid ⟨HSt.out.fnd.below hba, TRow.below HSt.out.liv hba, HSt.out.low.trans (hba.mono HSt.out.low.size), cdAt_new wr x _⟩
      clear x0 x1 x2 x3 x4 x5 hcp p0 p1 hcell hba
      generalize wr.alloc (.cells #[.int .i64 x.op, .int .i64 x.d, .int .i64 x.a, .int .i64 x.b, .int .u32 x.im, .int .i64 x.to] 68) = w4 at *
      generalize wr.heap.size = q at *
      obtain ⟨x0, x1, x2, x3, x4, x5⟩ := HJ4.out.cx
      simp only [Nat.zero_add] at x1 x2 x3 x4 x5
      by_cases hT : fT x.op = false
      · have f24 : (x.op == 24) = false := by unfold fT at hT; have := of_decide_eq_false hT; rw [beq_eq_false_iff_ne]; omega
        have f25 : (x.op == 25) = false := by unfold fT at hT; have := of_decide_eq_false hT; rw [beq_eq_false_iff_ne]; omega
        have HJ : Hid (RcJ w1 qf qn q rn x (fun r => behB (atB ls b) i inn r) (Fnd ls inn b (i + 1)) w4) := Lib.hid (HJ4.out.congr (fun r _ => by rw [HBe.out, hT]; simp) (fun _ => Iff.rfl))
        go_upto_region 18 with (fail)
        clear x0 x1 x2 x3 x4 x5
        cases hd : fD x.op
        · 
          obtain ⟨y0, y1, y2, y3, y4, y5⟩ := HJ.out.cx
          simp only [Nat.zero_add] at y1 y2 y3 y4 y5
          go_wp2_with fail
          refine (HDef.out _).mono ?_; rintro e w6 ⟨rfl, hb6⟩
          have HJ6 := Lib.hid (HJ.out.below hb6)
          clear hb6 y0 y1 y2 y3 y4 y5
          rw [hd]
          have HU : Hid (RcJ w1 qf qn q rn x (fun r => !defB x r && behB (atB ls b) i inn r) (Fnd ls inn b i) w6) := Lib.hid (HJ6.out.congr (fun r _ => by unfold defB; rw [hd]; simp) (fun p => by rw [← HStep.out p]; exact ⟨.inl, fun h => h.elim id fun h => absurd h.1 (by rw [hd]; decide)⟩))
          obtain ⟨y0, y1, y2, y3, y4, y5⟩ := HU.out.cx
          simp only [Nat.zero_add] at y1 y2 y3 y4 y5
          go_wp2_with fail
          refine (HUse.out _).mono ?_; rintro e w8 ⟨⟨v, rfl, ho⟩, hb8⟩
          have HU8 := Lib.hid (HU.out.below hb8)
          obtain ⟨ua, uc, rfl⟩ := owns_shape ho
          have hqb := lt_of_block HU.out.liv
          have HV8 := Lib.hid (rowAt_owns ho (q := qn) hqb)
          have hul := usesL_len x
          clear ho hb8 y0 y1 y2 y3 y4 y5 hqb
          go_wp2_with fail
          go_loopw [18] (fun c wr => ∃ m2 : Nat, m2 ≤ (usesL x).length ∧ c = .int .i64 m2 ∧ RcJ w1 qf qn q rn x (listN (fun r => !defB x r && behB (atB ls b) i inn r) (usesL x) m2) (Fnd ls inn b i) wr ∧ RowAt wr qn (.slice ua (usesL x).length uc) (usesL x)) (fun c _ => (usesL x).length - (intOf c).toNat)
          case atStart => exact ⟨0, Nat.zero_le _, rfl, HU8.out.congr (fun r _ => listN_zero (R := fun r : Nat => !defB x r && behB (atB ls b) i inn r) r) (fun _ => Iff.rfl), HV8.out⟩
          case round =>
            obtain ⟨m2, hm2, rfl, hj9, hv9⟩ := hrel
            have HJ9 := Lib.hid hj9; have HV9 := Lib.hid hv9
            by_cases hlt2 : m2 < (usesL x).length
            · obtain ⟨a', cap', e', hi', _⟩ := hv9
              cases e'
              obtain ⟨ub, uoff, rfl, hcu⟩ := hi' m2 hlt2
              have hrn := HXs.out ((usesL x).getD m2 0) (by rw [List.getD_eq_getElem?_getD, List.getElem?_eq_getElem hlt2]; exact List.getElem_mem hlt2)
              obtain ⟨un, hune⟩ : ∃ un : Nat, (usesL x).getD m2 0 = un := ⟨((usesL x).getD m2 0).toNat, by omega⟩
              have HPut := Lib.hid (fun r => listN_put (R := fun r : Nat => !defB x r && behB (atB ls b) i inn r) hlt2 hune r)
              rw [hune] at hcu hrn
              have hcell := TRow.cell hj9.liv (show un < rn by omega)
              have hfree := TRow.free hj9.liv un
              clear hj9 hi' hune
              have hml : (m2 : Int) < (usesL x).length := by omega
              generalize hlen : (usesL x).length = ul at *
              clear hlen
              go_wp2_with fail
              go_roundw
              case rel => exact ⟨m2 + 1, by omega, by go_num, (HJ9.out.putN hfn hqn HQn.out un true).congr (fun r _ => HPut.out r) (fun _ => Iff.rfl), RowAt.save HV9.out (Save.set _ _ _ _)⟩
              case measure => simp [intOf]; omega
            · have hme : m2 = (usesL x).length := by omega
              have HE : Hid (RcSt ls inn w1 qf qn rn b i wr) := Lib.hid ⟨hj9.fnd, BRowF.congr hj9.liv (fun r _ => by rw [hme, HBN.out r]; exact listN_uses (B := fun r => behB (atB ls b) i inn r) r), hj9.low, hj9.low.size⟩
              clear hj9 hv9 hme HV8 HV9 HJ9
              go_wp2_with fail
              go_roundw
              case rel => exact ⟨i, by omega, by go_num, HE.out⟩
              case measure => simp [intOf]
        · 
          obtain ⟨y0, y1, y2, y3, y4, y5⟩ := HJ.out.cx
          simp only [Nat.zero_add] at y1 y2 y3 y4 y5
          go_wp2_with fail
          refine (HDef.out _).mono ?_; rintro e w6 ⟨rfl, hb6⟩
          have HJ6 := Lib.hid (HJ.out.below hb6)
          clear hb6 y0 y1 y2 y3 y4 y5
          rw [hd]
          obtain ⟨hd0, hd1⟩ := HDr.out hd
          obtain ⟨dn, hdn⟩ : ∃ dn : Nat, x.d = dn := ⟨x.d.toNat, by omega⟩
          have HDn := Lib.hid hdn
          have hdl : dn < rn := by omega
          rw [hdn]
          clear hd0 hd1 hdn
          go_wp2_with fail
          go_loopw [15] (fun c wr => ∃ m2 : Nat, m2 ≤ rn ∧ c = .int .i64 m2 ∧ RcJ w1 qf qn q rn x (fun r => behB (atB ls b) i inn r) (FndR (Fnd ls inn b (i + 1)) x (fun r => behB (atB ls b) i inn r) m2) wr) (fun c _ => rn - (intOf c).toNat)
          case atStart => exact ⟨0, Nat.zero_le _, rfl, HJ6.out.congr (fun _ _ => rfl) (FndR.zero _ _ _)⟩
          case round =>
            obtain ⟨m2, hm2, rfl, hj9⟩ := hrel
            have HJ9 := Lib.hid hj9
            have p0 := keep k0 hj9.low
            by_cases hlt2 : m2 < rn
            · have hml : (m2 : Int) < (rn : Int) := by omega
              have HSk := Lib.hid (fun h => FndR.skip (F := Fnd ls inn b (i + 1)) (x := x) (B := fun r => behB (atB ls b) i inn r) (m := m2) h)
              have HPt := Lib.hid (fun h u v => FndR.put (F := Fnd ls inn b (i + 1)) (x := x) (B := fun r => behB (atB ls b) i inn r) (m := m2) (u := u) (v := v) h)
              have HOk : Hid (okC x (fun r => behB (atB ls b) i inn r) m2 = (behB (atB ls b) i inn m2 && !decide ((m2 : Int) = dn) && !(decide (x.op = 1) && decide ((m2 : Int) = x.a)))) := Lib.hid (by unfold okC; rw [HDn.out])
              have hcell : wr.cell? ⟨qn, m2, none⟩ = some (.bool (behB (atB ls b) i inn (m2 : Int))) := TRow.cell hj9.liv hlt2
              obtain ⟨y0, y1, y2, y3, y4, y5⟩ := hj9.cx
              simp only [Nat.zero_add] at y1 y2 y3 y4 y5
              obtain ⟨u, hu⟩ : ∃ u : Nat, min (m2 : Int) (dn : Int) = u := ⟨min m2 dn, by omega⟩
              obtain ⟨v, hv⟩ : ∃ v : Nat, max (m2 : Int) (dn : Int) = v := ⟨max m2 dn, by omega⟩
              have hul : u < rn := by omega
              have hvl : v < rn := by omega
              have HUV : Hid (min (m2 : Int) x.d = u ∧ max (m2 : Int) x.d = v) := Lib.hid (by rw [HDn.out]; exact ⟨hu, hv⟩)
              obtain ⟨S, hS, _⟩ := hj9.fnd
              obtain ⟨j, hj⟩ : ∃ j, u * rn + v = j := ⟨_, rfl⟩
              have hjl : j < N := by rw [← HN.out, ← hj]; exact pair_lt hul hvl
              have hfree := TRow.free hS j
              have hcj : wr.cell? ⟨qf, j, none⟩ = some (.bool (S j)) := TRow.cell hS (by rw [HN.out]; exact hjl)
              have hij : (u : Int) * (rn : Int) + (v : Int) = (j : Int) := by rw [← hj]; simp
              have hm0 : 0 ≤ (u : Int) * (rn : Int) := Int.mul_nonneg (by omega) (by omega)
              have hm1 : (u : Int) * (rn : Int) ≤ 40000 := by omega
              have HJE := Lib.hid hj
              clear hj hS hj9
              cases hbb : behB (atB ls b) i inn m2
              · have HK := Lib.hid (HSk.out (by rw [HOk.out, hbb]; rfl))
                rw [hbb] at hcell
                clear hbb hu hv hij
                go_wp2_with fail
                go_roundw
                case rel => exact ⟨m2 + 1, by omega, by go_num, HJ9.out.congr (fun _ _ => rfl) HK.out⟩
                case measure => simp [intOf]; omega
              rw [hbb] at hcell
              by_cases e1 : m2 = dn
              · have HK := Lib.hid (HSk.out (by rw [HOk.out, decide_eq_true (show (m2 : Int) = dn by omega)]; simp))
                have f1 : ((m2 : Int) != (dn : Int)) = false := by rw [e1]; simp
                clear hbb hu hv hij e1
                go_wp2_with fail
                go_roundw
                case rel => exact ⟨m2 + 1, by omega, by go_num, HJ9.out.congr (fun _ _ => rfl) HK.out⟩
                case measure => simp [intOf]; omega
              have f1 : ((m2 : Int) != (dn : Int)) = true := by simp; omega
              have hne : ¬ (m2 : Int) = dn := by omega
              cases f2 : (x.op == 1)
              · have h2 : ¬ x.op = 1 := by simpa using f2
                have HK := Lib.hid (HPt.out (by rw [HOk.out, hbb, decide_eq_false hne, decide_eq_false h2]; rfl) u v HUV.out.1 HUV.out.2)
                clear hbb e1 hne h2
                go_wp2_with fail
                go_roundw
                case rel => exact ⟨m2 + 1, by omega, by go_num, (by rw [← HJE.out]; exact (HJ9.out.putF hfn hqf2 HQf.out hul hvl).congr (fun _ _ => rfl) HK.out)⟩
                case measure => simp [intOf]; omega
              have h2 : x.op = 1 := by simpa using f2
              cases f3 : ((m2 : Int) == x.a)
              · have h3 : ¬ (m2 : Int) = x.a := by simpa using f3
                have HK := Lib.hid (HPt.out (by rw [HOk.out, hbb, decide_eq_false hne, decide_eq_false h3]; simp) u v HUV.out.1 HUV.out.2)
                clear hbb e1 hne h2 h3
                go_wp2_with fail
                go_roundw
                case rel => exact ⟨m2 + 1, by omega, by go_num, (by rw [← HJE.out]; exact (HJ9.out.putF hfn hqf2 HQf.out hul hvl).congr (fun _ _ => rfl) HK.out)⟩
                case measure => simp [intOf]; omega
              · have h3 : (m2 : Int) = x.a := by simpa using f3
                have HK := Lib.hid (HSk.out (by rw [HOk.out, decide_eq_true h2, decide_eq_true h3]; simp))
                clear hbb e1 hne h2 h3 hu hv hij
                go_wp2_with fail
                go_roundw
                case rel => exact ⟨m2 + 1, by omega, by go_num, HJ9.out.congr (fun _ _ => rfl) HK.out⟩
                case measure => simp [intOf]; omega
            · obtain rfl : rn = m2 := by omega
              have hcell : wr.cell? ⟨qn, dn, none⟩ = some (.bool (behB (atB ls b) i inn (dn : Int))) := TRow.cell hj9.liv hdl
              have hfree := TRow.free hj9.liv dn
              have HJa : Hid (RcJ w1 qf qn q rn x (stB (fun r => behB (atB ls b) i inn r) dn false) (Fnd ls inn b i) (wr.setCell ⟨qn, dn, none⟩ (.bool false))) := Lib.hid ((HJ9.out.putN hfn hqn HQn.out dn false).congr (fun _ _ => rfl) fun p => (FndR.fin hd (fun r h => HBin2.out r h) p).trans (HStep.out p))
              have HU' : Hid (RcJ w1 qf qn q rn x (fun r => !defB x r && behB (atB ls b) i inn r) (Fnd ls inn b i) (wr.setCell ⟨qn, dn, none⟩ (.bool false))) := Lib.hid (HJa.out.congr (fun r _ => by
                unfold stB defB
                rw [hd, HDn.out]
                by_cases c : r = dn
                · subst c; simp
                · rw [if_neg c, decide_eq_false (show ¬ (dn : Int) = (r : Int) by omega)]; simp) fun _ => Iff.rfl)
              clear hj9 HJ9 HJa
              go_upto_region 26 with (fail)
              clear hcell hfree
              generalize wr.setCell ⟨qn, dn, none⟩ (.bool false) = w7 at *
              have HU := HU'
              obtain ⟨y0, y1, y2, y3, y4, y5⟩ := HU.out.cx
              simp only [Nat.zero_add] at y1 y2 y3 y4 y5
              go_wp2_with fail
              refine (HUse.out _).mono ?_; rintro e w8 ⟨⟨v, rfl, ho⟩, hb8⟩
              have HU8 := Lib.hid (HU.out.below hb8)
              obtain ⟨ua, uc, rfl⟩ := owns_shape ho
              have hqb := lt_of_block HU.out.liv
              have HV8 := Lib.hid (rowAt_owns ho (q := qn) hqb)
              have hul := usesL_len x
              clear ho hb8 y0 y1 y2 y3 y4 y5 hqb
              go_wp2_with fail
              go_loopw [18] (fun c wr => ∃ m2 : Nat, m2 ≤ (usesL x).length ∧ c = .int .i64 m2 ∧ RcJ w1 qf qn q rn x (listN (fun r => !defB x r && behB (atB ls b) i inn r) (usesL x) m2) (Fnd ls inn b i) wr ∧ RowAt wr qn (.slice ua (usesL x).length uc) (usesL x)) (fun c _ => (usesL x).length - (intOf c).toNat)
              case atStart => exact ⟨0, Nat.zero_le _, rfl, HU8.out.congr (fun r _ => listN_zero (R := fun r : Nat => !defB x r && behB (atB ls b) i inn r) r) (fun _ => Iff.rfl), HV8.out⟩
              case round =>
                obtain ⟨m2, hm2, rfl, hj9, hv9⟩ := hrel
                have HJ9 := Lib.hid hj9; have HV9 := Lib.hid hv9
                by_cases hlt2 : m2 < (usesL x).length
                · obtain ⟨a', cap', e', hi', _⟩ := hv9
                  cases e'
                  obtain ⟨ub, uoff, rfl, hcu⟩ := hi' m2 hlt2
                  have hrn := HXs.out ((usesL x).getD m2 0) (by rw [List.getD_eq_getElem?_getD, List.getElem?_eq_getElem hlt2]; exact List.getElem_mem hlt2)
                  obtain ⟨un, hune⟩ : ∃ un : Nat, (usesL x).getD m2 0 = un := ⟨((usesL x).getD m2 0).toNat, by omega⟩
                  have HPut := Lib.hid (fun r => listN_put (R := fun r : Nat => !defB x r && behB (atB ls b) i inn r) hlt2 hune r)
                  rw [hune] at hcu hrn
                  have hcell := TRow.cell hj9.liv (show un < rn by omega)
                  have hfree := TRow.free hj9.liv un
                  clear hj9 hi' hune
                  have hml : (m2 : Int) < (usesL x).length := by omega
                  generalize hlen : (usesL x).length = ul at *
                  clear hlen
                  go_wp2_with fail
                  go_roundw
                  case rel => exact ⟨m2 + 1, by omega, by go_num, (HJ9.out.putN hfn hqn HQn.out un true).congr (fun r _ => HPut.out r) (fun _ => Iff.rfl), RowAt.save HV9.out (Save.set _ _ _ _)⟩
                  case measure => simp [intOf]; omega
                · have hme : m2 = (usesL x).length := by omega
                  have HE : Hid (RcSt ls inn w1 qf qn rn b i wr) := Lib.hid ⟨hj9.fnd, BRowF.congr hj9.liv (fun r _ => by rw [hme, HBN.out r]; exact listN_uses (B := fun r => behB (atB ls b) i inn r) r), hj9.low, hj9.low.size⟩
                  clear hj9 hv9 hme HV8 HV9 HJ9
                  go_wp2_with fail
                  go_roundw
                  case rel => exact ⟨i, by omega, by go_num, HE.out⟩
                  case measure => simp [intOf]
      · have hT : fT x.op = true := by cases h : fT x.op <;> simp_all
        cases f24 : (x.op == 24)
        · have f25 : (x.op == 25) = true := by unfold fT at hT; have := of_decide_eq_true hT; have := beq_eq_false_iff_ne.1 f24; rw [beq_iff_eq]; omega
          rw [hT] at HBe
          obtain ⟨ht0, ht1⟩ := HTo.out hT
          obtain ⟨tn, htn⟩ : ∃ tn : Nat, x.to = tn := ⟨x.to.toNat, by omega⟩
          have hd : fD x.op = false := fT_fD hT
          obtain ⟨rb, roff, ra, rc, hre, hrc, hri⟩ := HRows.out tn (by omega)
          subst hre
          rw [htn] at HBe
          have HTn := Lib.hid htn
          have htl : (tn : Int) < (ls.length : Int) := by omega
          have hrl := HRowL.out tn
          have HTb : Hid (∀ r, inn (tn : Int) r = decide (r ∈ L.getD tn [])) := Lib.hid (HTab.out tn)
          have HRIn : Hid (∀ r ∈ L.getD tn [], 0 ≤ r ∧ r < (rn : Int)) := Lib.hid fun r hr => HInn.out tn r (by rw [HTab.out]; exact decide_eq_true hr)
          have HRi := Lib.hid hri; have HRc := Lib.hid hrc
          clear hri htn ht0 ht1 hrc
          generalize L.getD tn [] = row at *
          go_wp2_with fail
          clear x0 x1 x2 x3 x4 x5
          go_loopw [11] (fun c wr => ∃ m2 : Nat, m2 ≤ row.length ∧ c = .int .i64 m2 ∧ RcJ w1 qf qn q rn x (listN (fun r => liveL ((atB ls b).drop (i + 1)) inn r) row m2) (Fnd ls inn b (i + 1)) wr) (fun c _ => row.length - (intOf c).toNat)
          case atStart => exact ⟨0, Nat.zero_le _, rfl, HJ4.out.congr (fun r _ => listN_zero (R := fun r : Nat => liveL ((atB ls b).drop (i + 1)) inn r) r) (fun _ => Iff.rfl)⟩
          case round =>
            obtain ⟨m2, hm2, rfl, hj9⟩ := hrel
            have HJ9 := Lib.hid hj9
            obtain ⟨y0, y1, y2, y3, y4, y5⟩ := hj9.cx
            simp only [Nat.zero_add] at y1 y2 y3 y4 y5
            rw [HTn.out] at y5
            have hrc := keep HRc.out hj9.low
            by_cases hlt2 : m2 < row.length
            · obtain ⟨ub, uoff, rfl, hcu⟩ := HRi.out m2 hlt2
              have hcu2 := keep hcu hj9.low
              have hrn := HRIn.out (row.getD m2 0) (by rw [List.getD_eq_getElem?_getD, List.getElem?_eq_getElem hlt2]; exact List.getElem_mem hlt2)
              obtain ⟨un, hune⟩ : ∃ un : Nat, row.getD m2 0 = un := ⟨(row.getD m2 0).toNat, by omega⟩
              have HPut := Lib.hid (fun r => listN_put (R := fun r : Nat => liveL ((atB ls b).drop (i + 1)) inn r) hlt2 hune r)
              rw [hune] at hcu2 hrn
              have hcell := TRow.cell hj9.liv (show un < rn by omega)
              have hfree := TRow.free hj9.liv un
              clear hj9 hcu hune
              have hml : (m2 : Int) < row.length := by omega
              generalize hlen : row.length = ul at *
              clear hlen
              go_wp2_with fail
              go_roundw
              case rel => exact ⟨m2 + 1, by omega, by go_num, (HJ9.out.putN hfn hqn HQn.out un true).congr (fun r _ => HPut.out r) (fun _ => Iff.rfl)⟩
              case measure => simp [intOf]; omega
            · have hme : m2 = row.length := by omega
              have HJ : Hid (RcJ w1 qf qn q rn x (fun r => behB (atB ls b) i inn r) (Fnd ls inn b (i + 1)) wr) := Lib.hid (hj9.congr (fun r _ => by unfold listN; rw [HBe.out, HTb.out, hme, List.take_length]; simp) (fun _ => Iff.rfl))
              clear hj9 HJ9 hme
              go_upto_region 18 with (fail)
              clear y0 y1 y2 y3 y4 y5
              obtain ⟨y0, y1, y2, y3, y4, y5⟩ := HJ.out.cx
              simp only [Nat.zero_add] at y1 y2 y3 y4 y5
              go_wp2_with fail
              refine (HDef.out _).mono ?_; rintro e w6 ⟨rfl, hb6⟩
              have HJ6 := Lib.hid (HJ.out.below hb6)
              clear hb6 y0 y1 y2 y3 y4 y5
              rw [hd]
              have HU : Hid (RcJ w1 qf qn q rn x (fun r => !defB x r && behB (atB ls b) i inn r) (Fnd ls inn b i) w6) := Lib.hid (HJ6.out.congr (fun r _ => by unfold defB; rw [hd]; simp) (fun p => by rw [← HStep.out p]; exact ⟨.inl, fun h => h.elim id fun h => absurd h.1 (by rw [hd]; decide)⟩))
              obtain ⟨y0, y1, y2, y3, y4, y5⟩ := HU.out.cx
              simp only [Nat.zero_add] at y1 y2 y3 y4 y5
              go_wp2_with fail
              refine (HUse.out _).mono ?_; rintro e w8 ⟨⟨v, rfl, ho⟩, hb8⟩
              have HU8 := Lib.hid (HU.out.below hb8)
              obtain ⟨ua, uc, rfl⟩ := owns_shape ho
              have hqb := lt_of_block HU.out.liv
              have HV8 := Lib.hid (rowAt_owns ho (q := qn) hqb)
              have hul := usesL_len x
              clear ho hb8 y0 y1 y2 y3 y4 y5 hqb
              go_wp2_with fail
              go_loopw [18] (fun c wr => ∃ m2 : Nat, m2 ≤ (usesL x).length ∧ c = .int .i64 m2 ∧ RcJ w1 qf qn q rn x (listN (fun r => !defB x r && behB (atB ls b) i inn r) (usesL x) m2) (Fnd ls inn b i) wr ∧ RowAt wr qn (.slice ua (usesL x).length uc) (usesL x)) (fun c _ => (usesL x).length - (intOf c).toNat)
              case atStart => exact ⟨0, Nat.zero_le _, rfl, HU8.out.congr (fun r _ => listN_zero (R := fun r : Nat => !defB x r && behB (atB ls b) i inn r) r) (fun _ => Iff.rfl), HV8.out⟩
              case round =>
                obtain ⟨m2, hm2, rfl, hj9, hv9⟩ := hrel
                have HJ9 := Lib.hid hj9; have HV9 := Lib.hid hv9
                by_cases hlt2 : m2 < (usesL x).length
                · obtain ⟨a', cap', e', hi', _⟩ := hv9
                  cases e'
                  obtain ⟨ub, uoff, rfl, hcu⟩ := hi' m2 hlt2
                  have hrn := HXs.out ((usesL x).getD m2 0) (by rw [List.getD_eq_getElem?_getD, List.getElem?_eq_getElem hlt2]; exact List.getElem_mem hlt2)
                  obtain ⟨un, hune⟩ : ∃ un : Nat, (usesL x).getD m2 0 = un := ⟨((usesL x).getD m2 0).toNat, by omega⟩
                  have HPut := Lib.hid (fun r => listN_put (R := fun r : Nat => !defB x r && behB (atB ls b) i inn r) hlt2 hune r)
                  rw [hune] at hcu hrn
                  have hcell := TRow.cell hj9.liv (show un < rn by omega)
                  have hfree := TRow.free hj9.liv un
                  clear hj9 hi' hune
                  have hml : (m2 : Int) < (usesL x).length := by omega
                  generalize hlen : (usesL x).length = ul at *
                  clear hlen
                  go_wp2_with fail
                  go_roundw
                  case rel => exact ⟨m2 + 1, by omega, by go_num, (HJ9.out.putN hfn hqn HQn.out un true).congr (fun r _ => HPut.out r) (fun _ => Iff.rfl), RowAt.save HV9.out (Save.set _ _ _ _)⟩
                  case measure => simp [intOf]; omega
                · have hme : m2 = (usesL x).length := by omega
                  have HE : Hid (RcSt ls inn w1 qf qn rn b i wr) := Lib.hid ⟨hj9.fnd, BRowF.congr hj9.liv (fun r _ => by rw [hme, HBN.out r]; exact listN_uses (B := fun r => behB (atB ls b) i inn r) r), hj9.low, hj9.low.size⟩
                  clear hj9 hv9 hme HV8 HV9 HJ9
                  go_wp2_with fail
                  go_roundw
                  case rel => exact ⟨i, by omega, by go_num, HE.out⟩
                  case measure => simp [intOf]
        · have f25 : (x.op == 25) = false := by have := beq_iff_eq.1 f24; rw [beq_eq_false_iff_ne]; omega
          rw [hT] at HBe
          obtain ⟨ht0, ht1⟩ := HTo.out hT
          obtain ⟨tn, htn⟩ : ∃ tn : Nat, x.to = tn := ⟨x.to.toNat, by omega⟩
          have hd : fD x.op = false := fT_fD hT
          obtain ⟨rb, roff, ra, rc, hre, hrc, hri⟩ := HRows.out tn (by omega)
          subst hre
          rw [htn] at HBe
          have HTn := Lib.hid htn
          have htl : (tn : Int) < (ls.length : Int) := by omega
          have hrl := HRowL.out tn
          have HTb : Hid (∀ r, inn (tn : Int) r = decide (r ∈ L.getD tn [])) := Lib.hid (HTab.out tn)
          have HRIn : Hid (∀ r ∈ L.getD tn [], 0 ≤ r ∧ r < (rn : Int)) := Lib.hid fun r hr => HInn.out tn r (by rw [HTab.out]; exact decide_eq_true hr)
          have HRi := Lib.hid hri; have HRc := Lib.hid hrc
          clear hri htn ht0 ht1 hrc
          generalize L.getD tn [] = row at *
          go_wp2_with fail
          clear x0 x1 x2 x3 x4 x5
          go_loopw [11] (fun c wr => ∃ m2 : Nat, m2 ≤ row.length ∧ c = .int .i64 m2 ∧ RcJ w1 qf qn q rn x (listN (fun r => liveL ((atB ls b).drop (i + 1)) inn r) row m2) (Fnd ls inn b (i + 1)) wr) (fun c _ => row.length - (intOf c).toNat)
          case atStart => exact ⟨0, Nat.zero_le _, rfl, HJ4.out.congr (fun r _ => listN_zero (R := fun r : Nat => liveL ((atB ls b).drop (i + 1)) inn r) r) (fun _ => Iff.rfl)⟩
          case round =>
            obtain ⟨m2, hm2, rfl, hj9⟩ := hrel
            have HJ9 := Lib.hid hj9
            obtain ⟨y0, y1, y2, y3, y4, y5⟩ := hj9.cx
            simp only [Nat.zero_add] at y1 y2 y3 y4 y5
            rw [HTn.out] at y5
            have hrc := keep HRc.out hj9.low
            by_cases hlt2 : m2 < row.length
            · obtain ⟨ub, uoff, rfl, hcu⟩ := HRi.out m2 hlt2
              have hcu2 := keep hcu hj9.low
              have hrn := HRIn.out (row.getD m2 0) (by rw [List.getD_eq_getElem?_getD, List.getElem?_eq_getElem hlt2]; exact List.getElem_mem hlt2)
              obtain ⟨un, hune⟩ : ∃ un : Nat, row.getD m2 0 = un := ⟨(row.getD m2 0).toNat, by omega⟩
              have HPut := Lib.hid (fun r => listN_put (R := fun r : Nat => liveL ((atB ls b).drop (i + 1)) inn r) hlt2 hune r)
              rw [hune] at hcu2 hrn
              have hcell := TRow.cell hj9.liv (show un < rn by omega)
              have hfree := TRow.free hj9.liv un
              clear hj9 hcu hune
              have hml : (m2 : Int) < row.length := by omega
              generalize hlen : row.length = ul at *
              clear hlen
              go_wp2_with fail
              go_roundw
              case rel => exact ⟨m2 + 1, by omega, by go_num, (HJ9.out.putN hfn hqn HQn.out un true).congr (fun r _ => HPut.out r) (fun _ => Iff.rfl)⟩
              case measure => simp [intOf]; omega
            · have hme : m2 = row.length := by omega
              have HJ : Hid (RcJ w1 qf qn q rn x (fun r => behB (atB ls b) i inn r) (Fnd ls inn b (i + 1)) wr) := Lib.hid (hj9.congr (fun r _ => by unfold listN; rw [HBe.out, HTb.out, hme, List.take_length]; simp) (fun _ => Iff.rfl))
              clear hj9 HJ9 hme
              go_upto_region 18 with (fail)
              clear y0 y1 y2 y3 y4 y5
              obtain ⟨y0, y1, y2, y3, y4, y5⟩ := HJ.out.cx
              simp only [Nat.zero_add] at y1 y2 y3 y4 y5
              go_wp2_with fail
              refine (HDef.out _).mono ?_; rintro e w6 ⟨rfl, hb6⟩
              have HJ6 := Lib.hid (HJ.out.below hb6)
              clear hb6 y0 y1 y2 y3 y4 y5
              rw [hd]
              have HU : Hid (RcJ w1 qf qn q rn x (fun r => !defB x r && behB (atB ls b) i inn r) (Fnd ls inn b i) w6) := Lib.hid (HJ6.out.congr (fun r _ => by unfold defB; rw [hd]; simp) (fun p => by rw [← HStep.out p]; exact ⟨.inl, fun h => h.elim id fun h => absurd h.1 (by rw [hd]; decide)⟩))
              obtain ⟨y0, y1, y2, y3, y4, y5⟩ := HU.out.cx
              simp only [Nat.zero_add] at y1 y2 y3 y4 y5
              go_wp2_with fail
              refine (HUse.out _).mono ?_; rintro e w8 ⟨⟨v, rfl, ho⟩, hb8⟩
              have HU8 := Lib.hid (HU.out.below hb8)
              obtain ⟨ua, uc, rfl⟩ := owns_shape ho
              have hqb := lt_of_block HU.out.liv
              have HV8 := Lib.hid (rowAt_owns ho (q := qn) hqb)
              have hul := usesL_len x
              clear ho hb8 y0 y1 y2 y3 y4 y5 hqb
              go_wp2_with fail
              go_loopw [18] (fun c wr => ∃ m2 : Nat, m2 ≤ (usesL x).length ∧ c = .int .i64 m2 ∧ RcJ w1 qf qn q rn x (listN (fun r => !defB x r && behB (atB ls b) i inn r) (usesL x) m2) (Fnd ls inn b i) wr ∧ RowAt wr qn (.slice ua (usesL x).length uc) (usesL x)) (fun c _ => (usesL x).length - (intOf c).toNat)
              case atStart => exact ⟨0, Nat.zero_le _, rfl, HU8.out.congr (fun r _ => listN_zero (R := fun r : Nat => !defB x r && behB (atB ls b) i inn r) r) (fun _ => Iff.rfl), HV8.out⟩
              case round =>
                obtain ⟨m2, hm2, rfl, hj9, hv9⟩ := hrel
                have HJ9 := Lib.hid hj9; have HV9 := Lib.hid hv9
                by_cases hlt2 : m2 < (usesL x).length
                · obtain ⟨a', cap', e', hi', _⟩ := hv9
                  cases e'
                  obtain ⟨ub, uoff, rfl, hcu⟩ := hi' m2 hlt2
                  have hrn := HXs.out ((usesL x).getD m2 0) (by rw [List.getD_eq_getElem?_getD, List.getElem?_eq_getElem hlt2]; exact List.getElem_mem hlt2)
                  obtain ⟨un, hune⟩ : ∃ un : Nat, (usesL x).getD m2 0 = un := ⟨((usesL x).getD m2 0).toNat, by omega⟩
                  have HPut := Lib.hid (fun r => listN_put (R := fun r : Nat => !defB x r && behB (atB ls b) i inn r) hlt2 hune r)
                  rw [hune] at hcu hrn
                  have hcell := TRow.cell hj9.liv (show un < rn by omega)
                  have hfree := TRow.free hj9.liv un
                  clear hj9 hi' hune
                  have hml : (m2 : Int) < (usesL x).length := by omega
                  generalize hlen : (usesL x).length = ul at *
                  clear hlen
                  go_wp2_with fail
                  go_roundw
                  case rel => exact ⟨m2 + 1, by omega, by go_num, (HJ9.out.putN hfn hqn HQn.out un true).congr (fun r _ => HPut.out r) (fun _ => Iff.rfl), RowAt.save HV9.out (Save.set _ _ _ _)⟩
                  case measure => simp [intOf]; omega
                · have hme : m2 = (usesL x).length := by omega
                  have HE : Hid (RcSt ls inn w1 qf qn rn b i wr) := Lib.hid ⟨hj9.fnd, BRowF.congr hj9.liv (fun r _ => by rw [hme, HBN.out r]; exact listN_uses (B := fun r => behB (atB ls b) i inn r) r), hj9.low, hj9.low.size⟩
                  clear hj9 hv9 hme HV8 HV9 HJ9
                  go_wp2_with fail
                  go_roundw
                  case rel => exact ⟨i, by omega, by go_num, HE.out⟩
                  case measure => simp [intOf]
end Go.Proofs.Ytjfpaelmcepidaa.PK
