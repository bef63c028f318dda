/- Packed of several texts. -/
import Derived.Test.YtbbbflnnbbaamaaGreatDoorH11
import Derived.Deep.RegionHeld3
import Derived.StillTailTactics
import Derived.Lib.Hide
import Derived.Deep.Cut
import Derived.Outline
namespace Go.Proofs.YtbbbflnnbbaamaaGreatDoor.PK
open Go.RowKit Go.Shelf

variable {P : Program} {n l : Nat} {ops : Array Oper} {Q : Exit → Act → World → Prop}
def plainB (ops : Array Oper) : Bool := ops.toList.all fun o => match o.op with
 | .defer _ => false
 | _ => true
theorem plainB_at (h : plainB ops = true) {i : Nat} {o : Oper} (ho : ops[i]? = some o) : ∀ c, o.op ≠ .defer c := by
 intro c hc
 unfold plainB at h
 rw [List.all_eq_true] at h
 have h2 := h o (by rw [← Array.getElem?_toList] at ho; exact List.mem_of_getElem? ho)
 rw [hc] at h2
 cases h2
theorem wpIn_of_oper {o : Oper} {a : Act} {w : World} {K : Act → World → Prop} (hd : ∀ c, o.op ≠ .defer c) (h : o.wp P a w K Q) : o.wpIn (Fence.wide.inRound l) n P a w K Q := by
 refine ⟨fun _ _ => trivial, ?_⟩
 rw [Oper.semAt_plain (Fence.wide.inRound l) _ _ hd]
 unfold Oper.wp at h
 generalize (execOp a.eval o).run P w = r at *
 cases r with
 | ok x w' =>
  cases x <;> simp only [Oper.upon] at h <;> simp only [Oper.uponIn]
  case value v => exact h
  case skip => exact h
  case defer d => exact h
  case enter f args => exact ⟨fun e => (by cases e), CallsIn.inRound l (callsIn_wide.2 h)⟩
  case row row args => exact ⟨fun e => (by cases e), fun c cs _ => (by obtain ⟨v, w', r, s⟩ := h c cs; exact ⟨v, w', r, stepsIn_wide.2 s⟩)⟩
 | halt x w' => cases x <;> simp only [Oper.upon] at h <;> simp only [Oper.uponIn] <;> exact h
theorem wpOpIn_of {i : Nat} {K K' : Act → World → Prop} {a : Act} {w : World} (hp : plainB ops = true) (hl : ¬ LetsOut Q) (hK : ∀ a w, K a w → K' a w) (h : wpOp P ops Q i K a w) : wpOpIn (Fence.wide.inRound l) n P ops Q i K' a w := by
 unfold wpOp at h
 unfold wpOpIn
 cases ho : ops[i]? with
 | none => rw [ho] at h; exact hK _ _ h
 | some o =>
  rw [ho] at h
  dsimp only at h ⊢
  by_cases hw : Region.wanted o (yielded ops a.tmps) = true
  ·rw [if_pos hw] at h ⊢
   rcases h with h | ⟨_, h⟩
   ·exact wpIn_of_oper (plainB_at hp ho) (Oper.wp_mono hK h)
   ·exact absurd h hl
  ·rw [if_neg hw] at h ⊢
   exact ⟨fun _ _ => trivial, hK _ _ h⟩
theorem wpAnyIn_of {md : Region.Mode} (hp : plainB ops = true) (hl : ¬ LetsOut Q) : ∀ (fuel : Nat) (listed : Array Bool) (a : Act) (w : World), wpAny P md ops Q fuel listed a w → wpAnyIn (Fence.wide.inRound l) n P md ops Q fuel listed a w
 | 0, _, _, _, h => h
 | fuel + 1, _, _, _, h => ⟨h.1, fun i hi => wpOpIn_of hp hl (fun a w h => wpAnyIn_of hp hl fuel _ a w h) (h.2 i hi)⟩
structure Veil (p : Prop) : Prop where
 out : p
theorem still_step_h {w : World} {Q : Act → Prop} {a : Act} {o : Oper} {rest : List Oper} (h : ∀ K : Act → Prop, Veil (∀ a, Veil (wpStill P ops w Q rest a) → K a) → if Region.wanted o (yielded ops a.tmps) then o.still P a w K else K (a.put o.dst undef)) : Veil (wpStill P ops w Q (o :: rest) a) :=
 ⟨wpStill_step fun K hK => h K ⟨fun a ha => hK a ha.out⟩⟩
theorem still_skip_h {w : World} {Q : Act → Prop} {a : Act} {o : Oper} {rest : List Oper} (hw : Region.wanted o (yielded ops a.tmps) = false) (h : Veil (wpStill P ops w Q rest (a.put o.dst undef))) : Veil (wpStill P ops w Q (o :: rest) a) := by
 refine ⟨?_⟩
 unfold wpStill
 rw [hw]
 exact h.out
theorem still_nil_h {w : World} {Q : Act → Prop} {a : Act} (h : Q a) : Veil (wpStill P ops w Q [] a) := ⟨h⟩
theorem wpIn_region_tail_round {id : Nat} {a : Act} {w : World} {ls : List Oper} (k : Nat) (hm : P.follows .mixedOrders = true) (hp : plainB ls.toArray = true) (hl : ¬ LetsOut Q) (hB : Region.lexTailB .any ls.toArray k = true)
  (h : Veil (wpStill P ls.toArray w.drew (fun a' => wpList P ls.toArray Q (ls.drop k) a' w.drew) (ls.take k) a)) : (Code.region id ls.toArray true).wpIn (Fence.wide.inRound l) n P Q a w := by
 refine wpIn_region_any hm (wpAnyIn_of hp hl _ _ _ _ ?_)
 simp only [Region.lexTailB, Bool.and_eq_true, decide_eq_true_eq] at hB
 obtain ⟨⟨⟨⟨hsel, hn⟩, hs⟩, hc⟩, hlex⟩ := hB
 have hkl : k < ls.length := by simpa using hn
 have htl : (ls.take k).length = k := by simp; omega
 have inv0 : HeadInv .any ls.toArray k (Array.replicate ls.toArray.size false) :=
  ⟨by simp, fun j oj _ hf => (by rw [getD_replicate_false] at hf; cases hf), fun t _ ht => getD_in (by simpa using ht) (getD_replicate_false _ _)⟩
 have H := wpAnyL_lex (md := .any) (g := ls.toArray.size - k) hsel hs hc hn (ls.take k) 0 _ a (fun j hj => by
  have hj' : j < k := by rw [htl] at hj; exact hj
  simp [hj']) (by simpa using htl) inv0 (by rw [htl]; exact hlex) h.out
 have R := wpAny_of_head (Q' := Q) (g := ls.toArray.size - k) (fun listed a' hL => by
  have hS := wpAny_of_seq (md := .any) (Q' := Q) (ls.drop k) k listed a' w.drew (fun j => by simp [List.getElem?_drop]) (by rw [show (ls.drop k).length = ls.toArray.size - k by simp]; exact hL.1) hL.2
  rwa [show (ls.drop k).length = ls.toArray.size - k by simp] at hS) _ _ _ H
 rw [htl, show k + (ls.toArray.size - k) = ls.toArray.size by simp at hn ⊢; omega] at R
 exact R
theorem wpIn_region_still_round {id : Nat} {a : Act} {w : World} {ls : List Oper} (hm : P.follows .mixedOrders = true) (hp : plainB ls.toArray = true) (hl : ¬ LetsOut Q) (hB : Region.lexB .any ls.toArray = true)
  (h : Veil (wpStill P ls.toArray w.drew (fun a' => Q .normal a' w.drew) ls a)) : (Code.region id ls.toArray true).wpIn (Fence.wide.inRound l) n P Q a w := by
 refine wpIn_region_any hm (wpAnyIn_of hp hl _ _ _ _ ?_)
 simp only [Region.lexB, Bool.and_eq_true] at hB
 refine wpAny_of_still (Q := fun a' => Q .normal a' w.drew) (fun _ h => h) _ _ _ ?_
 have H := wpAnyS_lex (md := .any) hB.1 ls 0 (Array.replicate ls.toArray.size false) a (by simp) (by simpa using hB.2) h.out
 simpa using H
end Go.Proofs.YtbbbflnnbbaamaaGreatDoor.PK
namespace Go.Proofs.YtbbbflnnbbaamaaGreatDoor.PK
open Go.RowKit

def sumI (ls : List (List Ins)) (k : Nat) : Nat := ((ls.take k).map List.length).sum
theorem sumI_succ {ls : List (List Ins)} {k : Nat} (h : k < ls.length) : sumI ls (k + 1) = sumI ls k + (atBk ls k).length := by
 unfold sumI
 rw [List.take_succ_eq_append_getElem h, atBk_get h, List.map_append, List.sum_append]
 simp
theorem sumI_le {ls : List (List Ins)} (n : Nat) (h : ∀ k, k < ls.length → (atBk ls k).length ≤ n) : ∀ k, k ≤ ls.length → sumI ls k ≤ n * k
 | 0, _ => by simp [sumI]
 | k + 1, hk => by
  rw [sumI_succ (by omega), Nat.mul_succ]
  exact Nat.add_le_add (sumI_le n h k (by omega)) (h k (by omega))
set_option maxHeartbeats 4000000 in
theorem sizeI_any (F : Fun) (A : FunA) (w : World) (hb : FBIn w A.ba F.bs) (hbl : F.bs.length ≤ 1000) (hn : ∀ k, k < F.bs.length → (atBk F.bs k).length ≤ 1000) :
  Calls Tryz.prog 64 #[funV F A] w fun e w' => e = .returned (.int .i64 (sumI F.bs F.bs.length)) ∧ Below w.heap.size w w' := by
 have HI := Lib.hid hb; have HN := Lib.hid hn
 clear hb hn
 simp only [funV, funC]
 go_enter Tryz.func64, Tryz.ntmps64
 go_wp2_with fail
 generalize hw0 : w.alloc _ = w0
 have hb0 : Below w.heap.size w w0 := by rw [← hw0]; exact (Below.refl _ _).alloc (Nat.le_refl _) _
 clear hw0
 go_loopw [3, 9] (fun n i wr => ∃ k : Nat, k ≤ F.bs.length ∧ n = .int .i64 (sumI F.bs k) ∧ i = .int .i64 k ∧ Below w.heap.size w wr) (fun _ i _ => F.bs.length - (intOf i).toNat)
 case atStart => exact ⟨0, Nat.zero_le _, by simp [sumI], rfl, hb0⟩
 case round =>
  obtain ⟨k, hk, rfl, rfl, hb⟩ := hrel
  have HB := Lib.hid hb
  by_cases hlt : k < F.bs.length
  ·obtain ⟨b, off, a, cp, ha, hc, _⟩ := HI.out.below hb k hlt
   rw [ha]
   clear hb
   have hs1 : sumI F.bs k ≤ 1000000 := by have := sumI_le 1000 HN.out k hk; omega
   have hs3 := HN.out k hlt
   have HT := Lib.hid (sumI_succ hlt)
   generalize hsk : sumI F.bs k = sk at *
   generalize hbl : (atBk F.bs k).length = m at *
   clear hsk hbl
   go_wp2_with fail
   go_roundw
   case rel => exact ⟨k + 1, by omega, by rw [HT.out]; go_num, by go_num, HB.out⟩
   case measure => simp [intOf]; omega
  ·clear hb
   have hkl : k = F.bs.length := by omega
   subst hkl
   go_wp2_with fail
   go_ret
   exact ⟨rfl, HB.out⟩
end Go.Proofs.YtbbbflnnbbaamaaGreatDoor.PK
namespace Go.Proofs.YtbbbflnnbbaamaaGreatDoor.PK
open Go.RowKit Go.Shelf
attribute [local go_sem] Oper.semAt_some

theorem sumI_mono {ls : List (List Ins)} {k : Nat} (h : k < ls.length) : sumI ls k + (atBk ls k).length ≤ sumI ls ls.length := by
 rw [← sumI_succ h]
 have : ∀ d, k + 1 + d ≤ ls.length → sumI ls (k + 1) ≤ sumI ls (k + 1 + d) := by
  intro d
  induction d with
  | zero => intro _; exact Nat.le_refl _
  | succ d ih =>
   intro hd
   have := ih (by omega)
   have h2 := sumI_succ (ls := ls) (k := k + 1 + d) (by omega)
   have h3 : k + 1 + (d + 1) = k + 1 + d + 1 := rfl
   rw [h3]
   omega
 have := this (ls.length - (k + 1)) (by omega)
 rwa [show k + 1 + (ls.length - (k + 1)) = ls.length by omega] at this
def locI : List (List Ins) → Nat → Nat × Nat
 | [], _ => (0, 0)
 | l :: ls, k => if k < l.length then (0, k) else ((locI ls (k - l.length)).1 + 1, (locI ls (k - l.length)).2)
theorem locI_at : ∀ (ls : List (List Ins)) (b i : Nat), b < ls.length → i < (atBk ls b).length → locI ls (sumI ls b + i) = (b, i)
 | [], b, i, hb, _ => absurd hb (Nat.not_lt_zero _)
 | l :: ls, 0, i, _, hi => by
  have : i < l.length := hi
  simp [locI, sumI, this]
 | l :: ls, b + 1, i, hb, hi => by
  have h := locI_at ls b i (by simpa using hb) hi
  have hs : sumI (l :: ls) (b + 1) + i = l.length + (sumI ls b + i) := by simp [sumI]; omega
  rw [hs, locI, if_neg (by omega), Nat.add_sub_cancel_left, h]
structure InsA where
 aa : Option Addr
 ca : Nat
 ta : Option Addr
 ct : Nat
abbrev insE (x : Ins) (e : InsA) (v : Int) (b i : Nat) : Value := .agg #[.int .i64 x.op, .int .i64 x.wd, .int .i64 x.fl, .slice e.aa x.ar.length e.ca, .int .u32 x.im, .slice e.ta x.tt.length e.ct, .int .i64 v, .int .i64 b, .int .i64 i]
def BksIn (w : World) (a : Option Addr) (ls : List (List Ins)) (E : Nat → Nat → InsA) : Prop :=
 ∀ k, k < ls.length → ∃ b off a' cap, a = some ⟨b, off, none⟩ ∧ w.cell? ⟨b, off + k, none⟩ = some (.slice a' (atBk ls k).length cap) ∧
  ∀ i, i < (atBk ls k).length → ∃ b' off', a' = some ⟨b', off', none⟩ ∧ InsAt w b' (off' + i * 6) (atI (atBk ls k) i) (E k i).aa (E k i).ta (E k i).ca (E k i).ct
theorem BksIn.below {w w' : World} {a : Option Addr} {ls : List (List Ins)} {E : Nat → Nat → InsA} (h : BksIn w a ls E) (hb : Below w.heap.size w w') : BksIn w' a ls E := fun k hk => by
 obtain ⟨b, off, a', cap, rfl, hc, hi⟩ := h k hk
 refine ⟨b, off, a', cap, rfl, keep hc hb, fun i hi' => ?_⟩
 obtain ⟨b', off', rfl, hx⟩ := hi i hi'
 exact ⟨b', off', rfl, hx.below hb⟩
theorem FBIn.places {w : World} {a : Option Addr} {ls : List (List Ins)} (h : FBIn w a ls) : ∃ E, BksIn w a ls E := by
 have : ∀ k i, ∃ e : InsA, k < ls.length → i < (atBk ls k).length → ∃ b off a' cap b' off', a = some ⟨b, off, none⟩ ∧ w.cell? ⟨b, off + k, none⟩ = some (.slice a' (atBk ls k).length cap) ∧ a' = some ⟨b', off', none⟩ ∧ InsAt w b' (off' + i * 6) (atI (atBk ls k) i) e.aa e.ta e.ca e.ct := by
  intro k i
  by_cases hk : k < ls.length
  ·by_cases hi : i < (atBk ls k).length
   ·obtain ⟨b, off, a', cap, rfl, hc, hin⟩ := h k hk
    obtain ⟨b', off', aa, ta, ca, ct, rfl, hx⟩ := hin i hi
    exact ⟨⟨aa, ca, ta, ct⟩, fun _ _ => ⟨b, off, _, cap, b', off', rfl, hc, rfl, hx⟩⟩
   ·exact ⟨⟨none, 0, none, 0⟩, fun _ h => absurd h hi⟩
  ·exact ⟨⟨none, 0, none, 0⟩, fun h _ => absurd h hk⟩
 refine ⟨fun k i => Classical.choose (this k i), fun k hk => ?_⟩
 obtain ⟨b, off, a', cap, ha, hc, hin⟩ := h k hk
 refine ⟨b, off, a', cap, ha, hc, fun i hi => ?_⟩
 obtain ⟨b2, off2, a2, cap2, b', off', ha2, hc2, he, hx⟩ := Classical.choose_spec (this k i) hk hi
 rw [ha] at ha2; cases ha2
 rw [hc] at hc2
 cases hc2
 exact ⟨b', off', he, hx⟩
set_option maxRecDepth 100000 in
set_option maxHeartbeats 2000000 in
theorem all_in (Fn : Fence) (n : Nat) (hF : Fn.fn 102) (hro : Fn.round = none) (hn : 1 ≤ n) (l Bs : Nat) (F : Fun) (A : FunA) (E : Nat → Nat → InsA) (hbl : F.bs.length ≤ 1000) (hbn : ∀ k, k < F.bs.length → (atBk F.bs k).length ≤ 1000) (hpl : F.ps.length ≤ 1000) (w0 : World) (hI : BksIn w0 A.ba F.bs E) (J Jx : Nat → World → Prop)
  (hJ : ∀ k A A', Below A.heap.size A A' → J k A → J k A')
  (hY : ∀ k W, J k W → k < sumI F.bs F.bs.length → YieldAt Fn (n - 1) Tryz.prog l #[insE (atI (atBk F.bs (locI F.bs k).1) (locI F.bs k).2) (E (locI F.bs k).1 (locI F.bs k).2) ((F.ps.length : Int) + k) (locI F.bs k).1 (locI F.bs k).2] W fun e W' =>
   (e = .returned (.bool true) ∧ J (k + 1) W' ∧ Kp w0.heap.size Bs W W') ∨ (e = .returned (.bool false) ∧ Jx (k + 1) W'))
  (W : World) (hb0 : Below w0.heap.size w0 W) (hB0 : W.cell? ⟨Bs, 0, none⟩ = some (.slice A.pa F.ps.length A.pc)) (hB3 : W.cell? ⟨Bs, 3, none⟩ = some (.slice A.ba F.bs.length A.bc)) (h0 : J 0 W) :
  CallsIn Fn n Tryz.prog 102 #[.func (.yield l) #[] #[], .pointer (some ⟨Bs, 0, none⟩)] W fun e W' => (∃ v, e = .returned v) ∧
   (J (sumI F.bs F.bs.length) W' ∨ (∃ k, k ≤ sumI F.bs F.bs.length ∧ Jx k W')) := by
 refine callsIn_of_wp Tryz.func102 rfl hF ?_ hro
 simp only [Tryz.ntmps102, List.size_toArray, List.length_cons, List.length_nil, Nat.reduceAdd, Nat.reduceSub, Array.replicate_succ, Array.replicate_zero, List.push_toArray, List.append_toArray, List.nil_append, List.cons_append]
 gi_wp2
 gi_loopw [3, 14] (fun v i wr => ∃ k : Nat, k ≤ F.bs.length ∧ v = .int .i64 (F.ps.length + sumI F.bs k : Nat) ∧ i = .int .i64 k ∧ J (sumI F.bs k) wr ∧ Kp w0.heap.size Bs W wr)
  (fun _ i _ => F.bs.length - (intOf i).toNat)
 case atStart => exact ⟨0, Nat.zero_le _, by simp [sumI], rfl, by simpa [sumI] using h0, Kp.refl _ _ _⟩
 case round =>
  obtain ⟨k, hk, rfl, rfl, hJs, hnx⟩ := hrel
  by_cases hlt : k < F.bs.length
  ·obtain ⟨b, off, a', cap, ha, hcw, hinw⟩ := hI k hlt
   have hc := keep hcw (hb0.trans hnx.low)
   have HIn := Lib.hid hinw
   clear hinw hcw
   rw [ha]
   have hm := hbn k hlt
   have HSl : Hid (sumI F.bs k ≤ 1000 * 1000) := Lib.hid (by have := sumI_le 1000 hbn k hk; omega)
   have HSs := Lib.hid (sumI_succ hlt)
   gi_wp2
   gi_loopw [3, 21] (fun v j wr2 => ∃ i : Nat, i ≤ (atBk F.bs k).length ∧ v = .int .i64 (F.ps.length + (sumI F.bs k + i) : Nat) ∧ j = .int .i64 i ∧ J (sumI F.bs k + i) wr2 ∧ Kp w0.heap.size Bs W wr2)
    (fun _ j _ => (atBk F.bs k).length - (intOf j).toNat)
   case atStart => exact ⟨0, Nat.zero_le _, rfl, rfl, hJs, hnx⟩
   case round =>
    obtain ⟨i, hi, rfl, rfl, hJi, hni⟩ := hrel
    clear hc
    by_cases hil : i < (atBk F.bs k).length
    ·obtain ⟨b2, off2, rfl, hx⟩ := HIn.out i hil
     obtain ⟨c0, c1, c2, c3, c4, c5, ia, it⟩ := hx.below (hb0.trans hni.low)
     clear hx ia it
     have hkN : sumI F.bs k + i < sumI F.bs F.bs.length := Nat.lt_of_lt_of_le (Nat.add_lt_add_left hil _) (sumI_mono hlt)
     have hloc := locI_at F.bs k i hlt hil
     have hs := HSl.out
     have HK := Lib.hid hni
     have HJ := Lib.hid hJi
     have HYk := Lib.hid (hY (sumI F.bs k + i))
     rw [hloc] at HYk
     clear hloc hY
     generalize hsx : sumI F.bs k + i = sx at *
     have HSx := Lib.hid hsx; clear hsx hni hJi hJs hnx
     have hsv : (F.ps.length : Int) + sx < 100000000 := by have := HSx.out; omega
     generalize hxx : atI (atBk F.bs k) i = x at *
     generalize hEE : E k i = e at *
     have hbA : Below wr.heap.size wr (wr.alloc (.cells #[.int .i64 x.op, .int .i64 x.wd, .int .i64 x.fl, .slice e.aa x.ar.length e.ca, .int .u32 x.im, .slice e.ta x.tt.length e.ct] 63)) := (Below.refl _ _).alloc (Nat.le_refl _) _
     have HKA := Lib.hid (HK.out.trans (Kp.of_below hbA (Nat.le_trans hb0.size HK.out.low.size) (block_lt_of_cell (HK.out.cell hB0))))
     obtain ⟨fn, tmps, assign, body, hy, hR⟩ := HYk.out _ (hJ sx _ _ hbA HJ.out) hkN
     clear hbA
     gi_wp2
     refine hR.mono ?_
     rintro ee W3 (⟨rfl, hJ3, hk3⟩ | ⟨rfl, hJx3⟩)
     ·gi_wp2
      go_roundw
      case rel => exact ⟨i + 1, by omega, by rw [show sumI F.bs k + (i + 1) = sx + 1 by have := HSx.out; omega]; go_num, by go_num, by rw [show sumI F.bs k + (i + 1) = sx + 1 by have := HSx.out; omega]; exact hJ3, HKA.out.trans hk3⟩
      case measure => simp [intOf]; omega
     ·gi_wp2
      refine bodyPost_ret (results_none rfl _ _ _) rfl ?_
      exact ⟨⟨_, rfl⟩, .inr ⟨_, by omega, hJx3⟩⟩
    ·have hie : i = (atBk F.bs k).length := by omega
     subst hie
     gi_wp2
     go_roundw
     case rel => exact ⟨k + 1, by omega, by rw [HSs.out], by go_num, by rw [HSs.out]; exact hJi, hni⟩
     case measure => simp [intOf]; omega
  ·have hkl : k = F.bs.length := by omega
   subst hkl
   gi_wp2
   go_end0
   exact ⟨⟨_, rfl⟩, .inl hJs⟩
abbrev encX (F : Fun) (E : Nat → Nat → InsA) (k : Nat) : Value := insE (atI (atBk F.bs (locI F.bs k).1) (locI F.bs k).2) (E (locI F.bs k).1 (locI F.bs k).2) ((F.ps.length : Int) + k) (locI F.bs k).1 (locI F.bs k).2
theorem all_seq (Fn : Fence) (n : Nat) (hF : Fn.fn 102) (hro : Fn.round = none) (hn : 1 ≤ n) (Bs : Nat) (F : Fun) (A : FunA) (E : Nat → Nat → InsA) (hbl : F.bs.length ≤ 1000) (hbn : ∀ k, k < F.bs.length → (atBk F.bs k).length ≤ 1000) (hpl : F.ps.length ≤ 1000) (w0 w : World) (hb0 : Below w0.heap.size w0 w) (hI : BksIn w0 A.ba F.bs E) (hBs : Bs < w.heap.size)
  (hB0 : w.cell? ⟨Bs, 0, none⟩ = some (.slice A.pa F.ps.length A.pc)) (hB3 : w.cell? ⟨Bs, 3, none⟩ = some (.slice A.ba F.bs.length A.bc)) :
  SeqN Fn n Tryz.prog 102 #[.pointer (some ⟨Bs, 0, none⟩)] (fun k => #[encX F E k]) (sumI F.bs F.bs.length) w0.heap.size Bs w := fun l J Jx W hW hJ _ hY h0 =>
 all_in Fn n hF hro hn l Bs F A E hbl hbn hpl w0 hI J Jx hJ hY W (hb0.trans (hW.mono hb0.size)) ((hW.cell (p := ⟨Bs, 0, none⟩) hBs).trans hB0) ((hW.cell (p := ⟨Bs, 3, none⟩) hBs).trans hB3) h0
theorem all_any (F : Fun) (A : FunA) (w : World) :
  Calls Tryz.prog 66 #[funV F A] w fun e w' => e = .returned (.func (.func 102) #[] #[.pointer (some ⟨w.heap.size, 0, none⟩)]) ∧ w' = w.alloc (.cells (funC F A) 31) := by
 simp only [funV, funC]
 go_enter Tryz.func66, Tryz.ntmps66
 go_wp2_with fail
 go_ret
 exact ⟨rfl, rfl⟩
end Go.Proofs.YtbbbflnnbbaamaaGreatDoor.PK
