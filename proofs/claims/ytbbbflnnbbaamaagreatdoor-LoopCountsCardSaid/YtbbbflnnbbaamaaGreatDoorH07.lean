/- Packed of several texts. -/
import Derived.Test.YtbbbflnnbbaamaaGreatDoorH06
namespace Go.Proofs.YtbbbflnnbbaamaaGreatDoor.Mini
open Go.RowKit

variable {P : Program} {B : Nat}
structure Itm where
 i : Nat
 o : Oper
 c : Nat
 c' : Nat
 m : MV
 L : Log
def Ran (P : Program) (call : MV → List MV → (MV → Prg) → Prg) (ops : Array Oper) : List Itm → Fr → Heap → Fr → Heap → Prop
 | [], F, H, F', H' => F = F' ∧ H = H'
 | it :: rest, F, H, F', H' => F.fits it.o.dst ∧
  ((wantedM ops F it.o = true ∧ ∃ H1, run (opK P call F it.o .ret) H it.c [] = some (it.m, H1, it.c', it.L) ∧ Ran P call ops rest (F.put it.o.dst it.m) H1 F' H') ∨
   (wantedM ops F it.o = false ∧ it.m = MV.undef ∧ it.L = [] ∧ Ran P call ops rest (F.put it.o.dst it.m) H F' H'))
theorem ev_put {F : Fr} {d : Option Tmp} {m : MV} {y : Operand} (hf : F.fits d) (h : ∀ i, d = some i → y ≠ .tmp i) : (F.put d m).ev y = F.ev y := by
 cases d with
 | none => rfl
 | some i =>
  cases y with
  | tmp t =>
   show ((F.t.set i m).get t).getD MV.undef = _
   rw [T.get_set _ _ _ _ (hf i rfl).2, if_neg (fun e => h i rfl (by rw [e]))]
   rfl
  | _ => rfl
theorem mem_looks {ops : Array Oper} {o : Oper} {i : Nat} (h : Operand.tmp i ∈ o.op.operands) : i ∈ o.looksAt ops := by
 unfold Oper.looksAt
 exact List.mem_append_left _ (List.mem_filterMap.2 ⟨.tmp i, by simpa using h, rfl⟩)
theorem opK_put {call : MV → List MV → (MV → Prg) → Prg} {ops : Array Oper} {F : Fr} {o : Oper} {d : Option Tmp} {m : MV} (hf : F.fits d) (h : ∀ i, d = some i → i ∉ o.looksAt ops) (k : MV → Prg) : opK P call (F.put d m) o k = opK P call F o k :=
 opK_congr fun y hy => ev_put hf fun i e e2 => h i e (mem_looks (by rw [← e2]; exact hy))
theorem wanted_put' {ops : Array Oper} {F : Fr} {o : Oper} {d : Option Tmp} {m : MV} (hf : F.fits d) (h : ∀ i, d = some i → i ∉ o.looksAt ops) : wantedM ops (F.put d m) o = wantedM ops F o := by
 cases d with
 | none => rfl
 | some i =>
  unfold wantedM
  cases hg : o.guard with
  | none => rfl
  | some g =>
   obtain ⟨j, want⟩ := g
   dsimp only
   cases hd : (ops[j]?).bind (·.dst) with
   | none => rfl
   | some t =>
    dsimp only
    have hne : t ≠ i := fun e => h i rfl (by subst e; simp [Oper.looksAt, hg, hd])
    have e : (F.put (some i) m).t.get t = F.t.get t := by
     show (F.t.set i m).get t = _
     rw [T.get_set _ _ _ _ (hf i rfl).2, if_neg hne]
    rw [e]
theorem put_comm {F : Fr} {d e : Option Tmp} {m n : MV} (h : ∀ i, d = some i → e ≠ some i) : (F.put d m).put e n = (F.put e n).put d m := by
 cases d with
 | none => rfl
 | some i =>
  cases e with
  | none => rfl
  | some j =>
   show Fr.mk F.n ((F.t.set i m).set j n) F.marks = Fr.mk F.n ((F.t.set j n).set i m) F.marks
   rw [T.set_comm _ _ _ _ _ (fun e => h i rfl (by rw [e]))]
theorem fits_put {F : Fr} {d e : Option Tmp} {m : MV} : (F.put d m).fits e ↔ F.fits e := by cases d <;> exact Iff.rfl
theorem ran_swap {call : MV → List MV → (MV → Prg) → Prg} {ops : Array Oper} {x j : Itm} {rest : List Itm} {F F' : Fr} {H H' : Heap} (h : Ran P call ops (x :: j :: rest) F H F' H') (hap : x.o.apart ops j.o = true) (hl : Apart x.L j.L) : Ran P call ops (j :: x :: rest) F H F' H' := by
 obtain ⟨a1, a2, a3⟩ := Oper.apart_spec hap
 obtain ⟨hfx, hx⟩ := h
 have hjx : ∀ (m : MV), F.fits j.o.dst → wantedM ops (F.put j.o.dst m) x.o = wantedM ops F x.o := fun m hf => wanted_put' hf a3
 rcases hx with ⟨wx, H1, rx, hfj, hj⟩ | ⟨wx, mx, lx, hfj, hj⟩
 ·rw [wanted_put' hfx a1] at hj
  rw [fits_put] at hfj
  rcases hj with ⟨wj, H2, rj, hr⟩ | ⟨wj, mj, lj, hr⟩
  ·rw [opK_put hfx a1] at rj
   obtain ⟨Hj, s1, s2⟩ := run_swap rx rj hl
   refine ⟨hfj, .inl ⟨wj, Hj, s1, fits_put.2 hfx, .inl ⟨by rw [hjx _ hfj]; exact wx, H2, by rw [opK_put hfj a3]; exact s2, ?_⟩⟩⟩
   rw [← put_comm a2]; exact hr
  ·refine ⟨hfj, .inr ⟨wj, mj, lj, fits_put.2 hfx, .inl ⟨by rw [hjx _ hfj]; exact wx, H1, by rw [opK_put hfj a3]; exact rx, ?_⟩⟩⟩
   rw [← put_comm a2]; exact hr
 ·rw [wanted_put' hfx a1] at hj
  rw [fits_put] at hfj
  rcases hj with ⟨wj, H2, rj, hr⟩ | ⟨wj, mj, lj, hr⟩
  ·rw [opK_put hfx a1] at rj
   refine ⟨hfj, .inl ⟨wj, H2, rj, fits_put.2 hfx, .inr ⟨by rw [hjx _ hfj]; exact wx, mx, lx, ?_⟩⟩⟩
   rw [← put_comm a2]; exact hr
  ·refine ⟨hfj, .inr ⟨wj, mj, lj, fits_put.2 hfx, .inr ⟨by rw [hjx _ hfj]; exact wx, mx, lx, ?_⟩⟩⟩
   rw [← put_comm a2]; exact hr
theorem ran_tail {call : MV → List MV → (MV → Prg) → Prg} {ops : Array Oper} {x : Itm} {r1 r2 : List Itm} {F F' : Fr} {H H' : Heap} (h : Ran P call ops (x :: r1) F H F' H') (hr : ∀ F1 H1, Ran P call ops r1 F1 H1 F' H' → Ran P call ops r2 F1 H1 F' H') : Ran P call ops (x :: r2) F H F' H' := by
 obtain ⟨hf, ⟨w, H1, q, r⟩ | ⟨w, m, l, r⟩⟩ := h
 ·exact ⟨hf, .inl ⟨w, H1, q, hr _ _ r⟩⟩
 ·exact ⟨hf, .inr ⟨w, m, l, hr _ _ r⟩⟩
theorem ran_front {call : MV → List MV → (MV → Prg) → Prg} {ops : Array Oper} {j : Itm} {l2 : List Itm} {F' : Fr} {H' : Heap} : ∀ (l1 : List Itm) (F : Fr) (H : Heap), (∀ x ∈ l1, x.o.apart ops j.o = true ∧ Apart x.L j.L) → Ran P call ops (l1 ++ j :: l2) F H F' H' → Ran P call ops (j :: (l1 ++ l2)) F H F' H'
 | [], _, _, _, h => h
 | x :: l1, F, H, ha, h => by
  have h1 : Ran P call ops (x :: j :: (l1 ++ l2)) F H F' H' := ran_tail h fun F1 H1 => ran_front l1 F1 H1 fun y hy => ha y (List.mem_cons_of_mem _ hy)
  obtain ⟨a, b⟩ := ha x (List.mem_cons_self ..)
  exact ran_swap h1 a b

/-! ### What goes before what -/
theorem bitAt_eq (m i : Nat) : bitAt m i = m.testBit i := by
 unfold bitAt
 rw [Nat.testBit_eq_decide_div_mod_eq]
 cases h : Nat.beq (m / 2 ^ i % 2) 1 with
 | true => rw [beq_eq h]; rfl
 | false =>
  have : m / 2 ^ i % 2 ≠ 1 := fun e => by rw [e] at h; cases h
  simp [this]
theorem mask_bit {o : Oper} {acc : List Nat} {i : Nat} (h : bitAt (maskOf o acc) i = true) : ∃ e ∈ o.after, Region.binds .any e = true ∧ (e.on = i ∨ bitAt (acc.getD e.on 0) i = true) := by
 unfold maskOf at h
 have go : ∀ (l : List Edge), bitAt (l.foldr (fun e s => if Region.binds .any e then s ||| 2 ^ e.on ||| acc.getD e.on 0 else s) 0) i = true → ∃ e ∈ l, Region.binds .any e = true ∧ (e.on = i ∨ bitAt (acc.getD e.on 0) i = true) := by
  intro l
  induction l with
  | nil => intro h; rw [bitAt_eq] at h; simp at h
  | cons e l ih =>
   intro h
   simp only [List.foldr_cons] at h
   by_cases hb : Region.binds .any e = true
   ·rw [if_pos hb, bitAt_eq, Nat.testBit_or, Nat.testBit_or, Nat.testBit_two_pow, Bool.or_eq_true, Bool.or_eq_true] at h
    rcases h with (h | h) | h
    ·obtain ⟨e', h1, h2⟩ := ih (by rw [bitAt_eq]; exact h)
     exact ⟨e', List.mem_cons_of_mem _ h1, h2⟩
    ·exact ⟨e, List.mem_cons_self .., hb, .inl (by simpa using h)⟩
    ·exact ⟨e, List.mem_cons_self .., hb, .inr (by rw [bitAt_eq]; exact h)⟩
   ·rw [if_neg hb] at h
    obtain ⟨e', h1, h2⟩ := ih h
    exact ⟨e', List.mem_cons_of_mem _ h1, h2⟩
 obtain ⟨e, h1, h2⟩ := go _ h
 exact ⟨e, by simpa using h1, h2⟩
theorem maskGo_take : ∀ (l : List Oper) (acc : List Nat), (maskGo l acc).take acc.length = acc
 | [], acc => by simp [maskGo]
 | o :: l, acc => by
  have := maskGo_take l (acc ++ [maskOf o acc])
  simp only [maskGo]
  have e : (maskGo l (acc ++ [maskOf o acc])).take acc.length = ((maskGo l (acc ++ [maskOf o acc])).take (acc ++ [maskOf o acc]).length).take acc.length := by
   rw [List.take_take]; congr 1; simp
  rw [e, this]
  simp
theorem maskGo_get : ∀ (l : List Oper) (acc : List Nat) (t : Nat) (o : Oper), l[t]? = some o → (maskGo l acc)[acc.length + t]? = some (maskOf o ((maskGo l acc).take (acc.length + t)))
 | [], acc, t, o, h => by simp at h
 | q :: l, acc, 0, o, h => by
  simp at h
  subst h
  have h1 := maskGo_take (q :: l) acc
  have h2 := maskGo_take l (acc ++ [maskOf q acc])
  rw [Nat.add_zero, h1]
  simp only [maskGo]
  have : (maskGo l (acc ++ [maskOf q acc]))[acc.length]? = ((maskGo l (acc ++ [maskOf q acc])).take (acc ++ [maskOf q acc]).length)[acc.length]? := by
   rw [List.getElem?_take, if_pos (by simp)]
  rw [this, h2]
  simp
 | q :: l, acc, t + 1, o, h => by
  have := maskGo_get l (acc ++ [maskOf q acc]) t o (by simpa using h)
  simp only [maskGo]
  rw [show acc.length + (t + 1) = (acc ++ [maskOf q acc]).length + t by simp; omega]
  exact this
theorem getD_take_le {l : List Nat} {n i k : Nat} (h : bitAt ((l.take n).getD i 0) k = true) : i < n ∧ bitAt (l.getD i 0) k = true := by
 rw [List.getD_eq_getElem?_getD, List.getElem?_take] at h
 split at h
 ·rename_i hi
  exact ⟨hi, by rw [List.getD_eq_getElem?_getD]; exact h⟩
 ·rw [bitAt_eq] at h; simp at h
theorem anc_step {ops : Array Oper} {j i : Nat} {o : Oper} (ho : ops[j]? = some o) (h : bitAt ((maskGo ops.toList []).getD j 0) i = true) : ∃ e ∈ o.after, Region.binds .any e = true ∧ (e.on = i ∨ (e.on < j ∧ bitAt ((maskGo ops.toList []).getD e.on 0) i = true)) := by
 have hg := maskGo_get ops.toList [] j o (by simpa using ho)
 simp only [List.length_nil, Nat.zero_add] at hg
 rw [List.getD_eq_getElem?_getD, hg] at h
 obtain ⟨e, h1, h2, h3⟩ := mask_bit h
 refine ⟨e, h1, h2, h3.imp id fun h4 => ?_⟩
 exact getD_take_le h4
theorem anc_listed {ops : Array Oper} {listed : Array Bool} (hcl : ∀ j o, ops[j]? = some o → listed.getD j false = true → ∀ e ∈ o.after, Region.binds .any e = true → listed.getD e.on false = true) (hin : ∀ j, listed.getD j false = true → ∃ o, ops[j]? = some o) :
  ∀ (n j i : Nat) (o : Oper), j ≤ n → ops[j]? = some o → (∀ e ∈ o.after, Region.binds .any e = true → listed.getD e.on false = true) → bitAt ((maskGo ops.toList []).getD j 0) i = true → listed.getD i false = true := by
 intro n
 induction n with
 | zero =>
  intro j i o hj ho ha hb
  obtain ⟨e, h1, h2, h3 | ⟨h3, _⟩⟩ := anc_step ho hb
  ·subst h3; exact ha e h1 h2
  ·omega
 | succ n ih =>
  intro j i o hj ho ha hb
  obtain ⟨e, h1, h2, h3 | ⟨h3, h4⟩⟩ := anc_step ho hb
  ·subst h3; exact ha e h1 h2
  ·have hl := ha e h1 h2
   obtain ⟨o', ho'⟩ := hin e.on hl
   exact ih e.on i o' (by omega) ho' (hcl _ _ ho' hl) h4
def Free (ops : Array Oper) (x y : Itm) : Prop := x.i < y.i ∧ (bitAt ((maskGo ops.toList []).getD y.i 0) x.i = true ∨ (x.o.apart ops y.o = true ∧ Apart x.L y.L))
structure Rem (ops : Array Oper) (listed : Array Bool) (rem : List Itm) : Prop where
 free : rem.Pairwise (Free ops)
 at' : ∀ it ∈ rem, ops[it.i]? = some it.o ∧ listed.getD it.i true = false
 all : ∀ j o, ops[j]? = some o → listed.getD j true = false → ∃ it ∈ rem, it.i = j
 size : listed.size = ops.size
 cl : ∀ j o, ops[j]? = some o → listed.getD j false = true → ∀ e ∈ o.after, Region.binds .any e = true → listed.getD e.on false = true
theorem getD_listed {listed : Array Bool} {j : Nat} (h : j < listed.size) : listed.getD j true = listed.getD j false := by simp [Array.getD, h]
theorem Rem.inb {ops : Array Oper} {listed : Array Bool} {rem : List Itm} (h : Rem ops listed rem) (j : Nat) (hl : listed.getD j false = true) : ∃ o, ops[j]? = some o := by
 have hj : j < listed.size := by
  rcases Nat.lt_or_ge j listed.size with q | q
  ·exact q
  ·have e : listed.getD j false = false := by simp [Array.getD, Nat.not_lt.2 q]
   rw [e] at hl; cases hl
 rw [h.size] at hj
 exact ⟨ops[j], Array.getElem?_eq_getElem hj⟩
theorem ran_any {call : MV → List MV → (MV → Prg) → Prg} (hcall : CallOk P B call) {ops : Array Oper} (hedge : ∀ j o, ops[j]? = some o → ∀ e ∈ o.after, Region.binds .any e = true → e.on < j) {F' : Fr} {H' : Heap} {Fc : Fence} {n : Nat} (hW : Wd Fc) :
  ∀ (fuel : Nat) (rem : List Itm) (listed : Array Bool) (F : Fr) (H : Heap) (x : Env) (a : Act) (w : World) (Q : Exit → Act → World → Prop), rem.length = fuel → Rem ops listed rem → Ran P call ops rem F H F' H' → Rel B x H w → FrAt x F a →
   (∀ y w' a', x.le y → Rel B y H' w' → FrAt y F' a' → Below B w w' → Q .normal a' w') → wpAnyIn Fc n P .any ops Q fuel listed a w := by
 intro fuel
 induction fuel with
 | zero =>
  intro rem listed F H x a w Q hlen hrem hran hR ha hQ
  have hnil := List.eq_nil_of_length_eq_zero hlen
  subst hnil
  obtain ⟨rfl, rfl⟩ := hran
  refine ⟨?_, hQ x w a (Env.le_refl x) hR ha (Below.refl B w)⟩
  cases hr : Region.ready .any ops listed with
  | nil => rfl
  | cons j r =>
   have hj : j ∈ Region.ready .any ops listed := by rw [hr]; exact List.mem_cons_self ..
   obtain ⟨h1, o, ho, _⟩ := mem_ready.1 hj
   obtain ⟨it, hi, _⟩ := hrem.all j o ho h1
   cases hi
 | succ fuel ih =>
  intro rem listed F H x a w Q hlen hrem hran hR ha hQ
  refine ⟨fun hnil => ?_, fun j hj => ?_⟩
  ·exfalso
   cases rem with
   | nil => cases hlen
   | cons it rest =>
    obtain ⟨ho, hl⟩ := hrem.at' it (List.mem_cons_self ..)
    have : it.i ∈ Region.ready .any ops listed := by
     refine mem_ready.2 ⟨hl, it.o, ho, fun e he hb => ?_⟩
     have hlt := hedge it.i it.o ho e he hb
     cases hq : listed.getD e.on false with
     | true => rfl
     | false =>
      exfalso
      have hsz : it.i < ops.size := (Array.getElem?_eq_some_iff.1 ho).1
      have heo : ∃ o', ops[e.on]? = some o' := ⟨ops[e.on], Array.getElem?_eq_getElem (by omega)⟩
      obtain ⟨o', ho'⟩ := heo
      obtain ⟨jt, h1, h2⟩ := hrem.all e.on o' ho' (by rw [getD_listed (by rw [hrem.size]; omega)]; exact hq)
      rcases List.mem_cons.1 h1 with rfl | h1
      ·omega
      ·have := (List.rel_of_pairwise_cons hrem.free h1).1
       omega
    rw [hnil] at this
    cases this
  ·obtain ⟨h1, o, ho, hall⟩ := mem_ready.1 hj
   obtain ⟨jt, hjt, hji⟩ := hrem.all j o ho h1
   obtain ⟨l1, l2, hsplit⟩ := List.append_of_mem hjt
   subst hji
   have hoj : jt.o = o := by
    have := (hrem.at' jt hjt).1
    rw [ho] at this
    cases this; rfl
   have hfree := hrem.free
   rw [hsplit, List.pairwise_append] at hfree
   obtain ⟨p1, p2, p3⟩ := hfree
   have hap : ∀ y ∈ l1, y.o.apart ops jt.o = true ∧ Apart y.L jt.L := fun y hy => by
    rcases (p3 y hy jt (List.mem_cons_self ..)).2 with hb | hb
    ·exfalso
     have := anc_listed hrem.cl hrem.inb jt.i jt.i y.i o (Nat.le_refl _) ho hall hb
     have hy' := (hrem.at' y (by rw [hsplit]; exact List.mem_append_left _ hy)).2
     have hyo := (hrem.at' y (by rw [hsplit]; exact List.mem_append_left _ hy)).1
     have hys : y.i < listed.size := by rw [hrem.size]; exact (Array.getElem?_eq_some_iff.1 hyo).1
     rw [getD_listed hys, this] at hy'
     cases hy'
    ·exact hb
   rw [hsplit] at hran
   have hfront := ran_front l1 F H hap hran
   have hjs : jt.i < ops.size := (Array.getElem?_eq_some_iff.1 ho).1
   have hset : ∀ t d, (listed.setIfInBounds jt.i true).getD t d = if t = jt.i then true else listed.getD t d := fun t d => by
    by_cases e : t = jt.i
    ·subst e; rw [if_pos rfl]; simp [Array.getD, hrem.size, hjs]
    ·rw [if_neg e]
     simp only [Array.getD_eq_getD_getElem?]
     rw [Array.getElem?_setIfInBounds_ne (fun e2 => e e2.symm)]
   have hrem' : Rem ops (listed.setIfInBounds jt.i true) (l1 ++ l2) := by
    have hne : ∀ y ∈ l1 ++ l2, y.i ≠ jt.i := fun y hy => by
     rcases List.mem_append.1 hy with hy | hy
     ·have := (p3 y hy jt (List.mem_cons_self ..)).1; omega
     ·have := (List.rel_of_pairwise_cons p2 hy).1; omega
    have hsub : ∀ y ∈ l1 ++ l2, y ∈ rem := fun y hy => by
     rw [hsplit]
     rcases List.mem_append.1 hy with hy | hy
     ·exact List.mem_append_left _ hy
     ·exact List.mem_append_right _ (List.mem_cons_of_mem _ hy)
    refine ⟨?_, fun y hy => ?_, fun t o' ho' hl => ?_, by rw [Array.size_setIfInBounds]; exact hrem.size, fun t o' ho' hl e he hb => ?_⟩
    ·rw [List.pairwise_append]
     exact ⟨p1, (List.pairwise_cons.1 p2).2, fun y hy z hz => p3 y hy z (List.mem_cons_of_mem _ hz)⟩
    ·obtain ⟨q1, q2⟩ := hrem.at' y (hsub y hy)
     exact ⟨q1, by rw [hset, if_neg (hne y hy)]; exact q2⟩
    ·rw [hset] at hl
     by_cases e : t = jt.i
     ·rw [if_pos e] at hl; cases hl
     ·rw [if_neg e] at hl
      obtain ⟨it, hi, e2⟩ := hrem.all t o' ho' hl
      refine ⟨it, ?_, e2⟩
      rw [hsplit] at hi
      rcases List.mem_append.1 hi with hi | hi
      ·exact List.mem_append_left _ hi
      ·rcases List.mem_cons.1 hi with rfl | hi
       ·exact absurd e2.symm e
       ·exact List.mem_append_right _ hi
    ·rw [hset] at hl ⊢
     by_cases e2 : e.on = jt.i
     ·rw [if_pos e2]
     ·rw [if_neg e2]
      by_cases e3 : t = jt.i
      ·subst e3
       rw [ho] at ho'
       cases ho'
       exact hall e he hb
      ·rw [if_neg e3] at hl
       exact hrem.cl t o' ho' hl e he hb
   have hlen' : (l1 ++ l2).length = fuel := by
    rw [hsplit] at hlen
    simp only [List.length_append, List.length_cons] at hlen ⊢
    omega
   unfold wpOpIn
   rw [ho]
   dsimp only
   rw [wanted_eq ha ops o]
   obtain ⟨hf, ⟨hw, H1, hrun, hrest⟩ | ⟨hw, hm, hL, hrest⟩⟩ := hfront
   ·rw [hoj] at hf hw hrun hrest
    rw [hw, if_pos rfl]
    obtain ⟨m', Hm, cm, lm, g1, g2⟩ := op_got hcall hrun
    have g3 : m' = jt.m ∧ Hm = H1 := by
     simp only [run, Option.some.injEq, Prod.mk.injEq] at g1
     exact ⟨g1.1, g1.2.1⟩
    obtain ⟨rfl, rfl⟩ := g3
    refine g2.wpIn hW (opK_plain hrun) hR ha fun v w' ⟨y, q1, q2, q3, q4⟩ => ?_
    exact ih (l1 ++ l2) _ _ _ y _ w' Q hlen' hrem' hrest q2 ((ha.le q1).put hf q3) fun z w2 a2 e1 e2 e3 e4 => hQ z w2 a2 (Env.le_trans q1 e1) e2 e3 (q4.trans e4)
   ·rw [hoj] at hf hw hrest
    rw [hw, if_neg (by simp)]
    refine ⟨fun f _ => hW.fn f, ?_⟩
    exact ih (l1 ++ l2) _ _ _ x _ w Q hlen' hrem' hrest hR (ha.put hf (by rw [hm]; exact .v _)) hQ
end Go.Proofs.YtbbbflnnbbaamaaGreatDoor.Mini
