/- The walk of the visit in loop. -/
import Derived.Test.YtmljmmnofhhheaaWP
import Derived.Test.YtmljmmnofhhheaaWM
import Derived.Test.YtmljmmnofhhheaaM5
namespace Go.Proofs.Ytmljmmnofhhheaa
open Go.RowKit

/-- Nothing of what was there has changed but one block. -/
structure Save (q : Nat) (w w' : World) : Prop where
  os : w'.os = w.os
  tape : w'.tape = w.tape
  output : w'.output = w.output
  size : w.heap.size ≤ w'.heap.size
  block : ∀ k, k < w.heap.size → k ≠ q → w'.heap[k]? = w.heap[k]?
theorem Save.refl (q : Nat) (w : World) : Save q w w := ⟨rfl, rfl, rfl, Nat.le_refl _, fun _ _ _ => rfl⟩
theorem Save.trans {q : Nat} {a b c : World} (h : Save q a b) (k : Save q b c) : Save q a c :=
  ⟨k.os.trans h.os, k.tape.trans h.tape, k.output.trans h.output, Nat.le_trans h.size k.size, fun i hi hq => (k.block i (Nat.lt_of_lt_of_le hi h.size) hq).trans (h.block i hi hq)⟩
theorem Save.of_below {q : Nat} {w w' : World} (h : Below w.heap.size w w') : Save q w w' := ⟨h.os, h.tape, h.output, h.size, fun k hk _ => h.block k hk⟩
theorem Save.set (q v : Nat) (w : World) (x : Value) : Save q w (w.setCell ⟨q, v, none⟩ x) :=
  ⟨rfl, rfl, rfl, by simp [World.setCell], fun k _ hk => Below.heap_setCell _ _ _ _ hk⟩
theorem Save.below {q : Nat} {w w' : World} (h : Save q w w') {B : Nat} (hq : B ≤ q) (hB : B ≤ w.heap.size) : Below B w w' :=
  ⟨h.os, h.tape, h.output, h.size, fun k hk => h.block k (by omega) (by omega)⟩
theorem Save.cell {q : Nat} {w w' : World} (h : Save q w w') {b k : Nat} {v : Value} (hb : b ≠ q) (hc : w.cell? ⟨b, k, none⟩ = some v) : w'.cell? ⟨b, k, none⟩ = some v := by
  rw [World.cell?_of_block (w := w) (h.block b (block_lt_of_cell hc) hb)]; exact hc
theorem Save.nats {q : Nat} {w w' : World} {a : Option Addr} {xs : List Nat} (h : Save q w w') (hn : NatsIn w a xs) (hne : ∀ k, k < xs.length → ∀ b off, a = some ⟨b, off, none⟩ → b ≠ q) : NatsIn w' a xs := fun k hk => by
  obtain ⟨b, off, rfl, hc⟩ := hn k hk
  exact ⟨b, off, rfl, h.cell (hne k hk b off rfl) hc⟩
theorem Save.ten {q b : Nat} {w w' : World} {S : NSet} (h : Save q w w') (hb : b ≠ q) (hT : Ten w b S) : Ten w' b S := by
  unfold Ten; rw [h.block b hT.lt hb]; exact hT

/-- What lies in memory as the loop of a head is found. -/
structure LCx (W0 w : World) (pg ph qa qi pt : Nat) (a : Option Addr) (n cap head : Nat) (all : NSet) : Prop where
  b0 : Below W0.heap.size W0 w
  hq : W0.heap.size ≤ qi
  cg : w.cell? ⟨pg, 0, none⟩ = some (.slice a n cap)
  ch : w.cell? ⟨ph, 0, none⟩ = some (.int .i64 head)
  cv : w.cell? ⟨pt, 0, none⟩ = some (.func (.func 79) #[] #[.pointer (some ⟨qi, 0, none⟩), .pointer (some ⟨qa, 0, none⟩), .pointer (some ⟨ph, 0, none⟩), .pointer (some ⟨pg, 0, none⟩), .pointer (some ⟨pt, 0, none⟩)])
  ta : Ten w qa all
  ng : pg ≠ qi
  nh : ph ≠ qi
  na : qa ≠ qi
  nt : pt ≠ qi
theorem LCx.save {W0 w w' : World} {pg ph qa qi pt : Nat} {a : Option Addr} {n cap head : Nat} {all : NSet} (h : LCx W0 w pg ph qa qi pt a n cap head all) (s : Save qi w w') : LCx W0 w' pg ph qa qi pt a n cap head all :=
  ⟨h.b0.trans (s.below h.hq h.b0.size), h.hq, s.cell h.ng h.cg, s.cell h.nh h.ch, s.cell h.nt h.cv, s.ten h.na h.ta, h.ng, h.nh, h.na, h.nt⟩

def TakePost (E : Nat → Nat → Prop) (all : NSet) (v : Nat) (S : NSet) (qi : Nat) (w : World) (e : Ending) (w' : World) : Prop :=
  e = .returned (.tuple #[]) ∧ ∃ S', Vis E all v S S' ∧ Ten w' qi S' ∧ Save qi w w'
theorem mem_before {g : Gr} {v x : Nat} (ok : OkG g) : x ∈ setL (beforeS g (v : Nat) g.length) ↔ v ∈ succ g x := by
  rw [setL_mem]
  unfold beforeS
  simp only [Bool.and_eq_true, decide_eq_true_eq, goesI_iff]
  constructor
  · rintro ⟨_, _, y, hy, e⟩
    have : y = v := by omega
    subst this; exact hy
  · intro h
    have := lt_of_succ h
    have := ok.ten
    exact ⟨by omega, by omega, v, h, rfl⟩

set_option maxRecDepth 100000 in
set_option maxHeartbeats 2000000 in
theorem take_any (W0 : World) (pg ph qa qi pt : Nat) (a : Option Addr) (cap head : Nat) (g : Gr) (all : NSet) (hg : GraphIn W0 a g) (ok : OkG g) (f : Nat) :
    ∀ (v : Nat) (S : NSet) (w : World), cnt S < f → v < g.length → LCx W0 w pg ph qa qi pt a g.length cap head all → Ten w qi S →
    Calls Try.prog 79 #[.int .i64 v, .pointer (some ⟨qi, 0, none⟩), .pointer (some ⟨qa, 0, none⟩), .pointer (some ⟨ph, 0, none⟩), .pointer (some ⟨pg, 0, none⟩), .pointer (some ⟨pt, 0, none⟩)] w (TakePost (backE g head all) all v S qi w) := by
  have hn := ok.ten
  induction f with
  | zero => intro v S w h; omega
  | succ f ih =>
    intro v S w hc hv C T
    have hv10 : v < 10 := by omega
    have c1 := T.cell hv10
    have c2 := C.ta.cell hv10
    have hci := C.ch
    cases hs : S v
    · rw [hs] at c1
      cases ha : all v
      · rw [ha] at c2
        have HA := Lib.hid ha; have HT := Lib.hid T
        clear T C hg ih ha hs
        go_enter Try.func79, Try.ntmps79
        go_wp2_with fail
        go_end0
        exact ⟨rfl, S, Vis.not HA.out, HT.out, Save.refl _ _⟩
      · rw [ha] at c2
        have f1 := T.free v
        have t1 := Save.set qi v w (.bool true)
        have C1 := C.save t1
        have T1 := T.mark hv10
        have hci1 := C1.ch
        have hlt := cnt_mark hv10 hs
        by_cases hh : v = head
        · subst hh
          have hvb : ((v : Int) == (v : Int)) = true := by simp
          have HA := Lib.hid ha; have HT := Lib.hid T1; have HS := Lib.hid t1
          clear T C hg ih ha hs C1 T1 t1
          go_enter Try.func79, Try.ntmps79
          go_wp2_with fail
          go_end0
          exact ⟨rfl, _, Vis.end HA.out (fun x hx => hx.1 rfl), HT.out, HS.out⟩
        · have hvb : ((v : Int) == (head : Int)) = false := by simp; omega
          have hcg := C1.cg
          have hbef := before_any a cap g v _ (hg.below C1.b0) ok
          have hmem := fun x => mem_before (g := g) (v := v) (x := x) ok
          have hlist := fun w' => list_any (beforeS g (v : Nat) g.length) w'
          have HBf := Lib.hid hbef; have HMem := Lib.hid hmem; have HLi := Lib.hid hlist
          have HA := Lib.hid ha; have HT := Lib.hid T1; have HS := Lib.hid t1; have HC := Lib.hid C; have IH := Lib.hid ih; have HH := Lib.hid hh
          have HLt := Lib.hid hlt
          have HLn := Lib.hid (fun x (h : x ∈ setL (beforeS g (v : Nat) g.length)) => lt_of_succ ((hmem x).1 h))
          clear T C hg ih ha hs C1 T1 t1 hbef hmem hlist hh hlt
          have hLlen : (setL (beforeS g (v : Nat) g.length)).length ≤ 10 := setUpto_len _ 10
          go_enter Try.func79, Try.ntmps79
          go_wp2_with fail
          refine HBf.out.mono ?_; rintro e w2 ⟨rfl, hb2⟩
          have HS2 := Lib.hid (HS.out.trans (Save.of_below hb2)); have HT2 := Lib.hid (HT.out.below hb2)
          clear hb2
          go_wp2_with fail
          refine (HLi.out _).mono ?_; rintro e w3 ⟨v3, rfl, ⟨la, lcap, rfl, hl⟩, hb3⟩
          have HS3 := Lib.hid (HS2.out.trans (Save.of_below hb3)); have HT3 := Lib.hid (HT2.out.below hb3); have HL := Lib.hid hl
          have HNe := Lib.hid (nats_ne hl HT3.out)
          clear hb3 hl
          generalize setL (beforeS g (v : Nat) g.length) = L at *
          go_wp2_with fail
          go_loopw [28] (fun i wr => ∃ (k : Nat) (Sk : NSet), k ≤ L.length ∧ i = .int .i64 k ∧ VisL (backE g head all) all v L k (mark S v) Sk ∧ Ten wr qi Sk ∧ Save qi w3 wr) (fun i _ => L.length - (intOf i).toNat)
          case atStart => exact ⟨0, mark S v, Nat.zero_le _, rfl, VisL.zero, HT3.out, Save.refl _ _⟩
          case round =>
            obtain ⟨k, Sk, hk, rfl, hd, hT, hsv⟩ := hrel
            by_cases hlt : k < L.length
            · have Ck := HC.out.save (HS3.out.trans hsv)
              have cv := Ck.cv
              obtain ⟨b2, off2, rfl, hx⟩ := hsv.nats HL.out HNe.out k hlt
              have hmemx := getD_mem_any 0 hlt
              have hxl := HLn.out _ hmemx
              have hcnt : cnt Sk < f := by have := cnt_le hd.sub; have := HLt.out; omega
              have HNx : Hid (∀ S2, Vis (backE g head all) all (L.getD k 0) Sk S2 → VisL (backE g head all) all v L (k + 1) (mark S v) S2) := Lib.hid fun S2 d => hd.next (fun ha => ⟨HH.out, (HMem.out _).1 hmemx, ha⟩) d
              have HX := Lib.hid (IH.out (L.getD k 0) Sk wr hcnt hxl Ck hT)
              have HSv := Lib.hid hsv
              clear hd Ck hT hsv hmemx
              generalize L.getD k 0 = x at *
              go_wp2_with (first | (go_at_call 79; refine HX.out.mono ?_; rintro e w4 ⟨rfl, S2, hd2, hT2, hs2⟩))
              go_roundw
              case rel => exact ⟨k + 1, S2, by omega, by go_num, HNx.out S2 hd2, hT2, HSv.out.trans hs2⟩
              case measure => simp [intOf]; omega
            · obtain rfl : k = L.length := by omega
              have HF := Lib.hid (hd.fin HA.out (fun x hx => ⟨(HMem.out x).2 hx.2.1, hx.2.2⟩))
              have HTf := Lib.hid hT; have HSv := Lib.hid hsv
              clear hd hT hsv
              go_wp2_with fail
              go_end0
              exact ⟨rfl, Sk, HF.out, HTf.out, HS3.out.trans HSv.out⟩
    · rw [hs] at c1
      have HS := Lib.hid hs; have HT := Lib.hid T
      clear T C hg ih hs
      go_enter Try.func79, Try.ntmps79
      go_wp2_with fail
      go_end0
      exact ⟨rfl, S, Vis.seen HS.out, HT.out, Save.refl _ _⟩
end Go.Proofs.Ytmljmmnofhhheaa
