/- Packed of several texts. -/
import Derived.Test.YtbbbflnnbbaamaaGreatDoorH21
import Derived.Test.YtbbbflnnbbaamaaGreatDoorH18
namespace Go.Proofs.YtbbbflnnbbaamaaGreatDoor.PK
open Go.RowKit

theorem step_append_own {P : Program} {ops : Array Oper} {o : Oper} {a : Act} {w : World} {K : Act → World → Prop} {Q : Exit → Act → World → Prop} {E : Prop}
  (hg : o.guard = none) (s x : Operand) (t : TypeId) (hop : o.op = Op.call { callee := Callee.builtin Builtin.append, args := #[s, x], argTypes := #[t, t] })
  (base : Nat) (e : TypeId) (i : TypeInfo) (z : Value) (size bytes : Nat) (h1 : P.underlying t = some (.slice e)) (h2 : P.info? e = some i) (h3 : i.zero = some z) (h4 : i.size = size) (h5 : i.bytes = bytes) (h6 : z.cells.size = size) (h7 : 0 < size)
  (v : Value) (n : Nat) (xs : List Value) (hs : a.eval s = v) (hown : w.ownsRow base e size v n xs)
  (ad : Addr) (m c : Nat) (news : List Value) (hx : a.eval x = .slice (some ad) m c) (hn : news.length = m * size) (hc : ∀ j u, news[j]? = some u → w.cell? (ad.add j) = some u) (h1c : ∀ u ∈ news, u.oneCell' = true)
  (b1 : n + m ≤ maxLen) (b2 : (n + m) * bytes ≤ 140737488355328) (hbase : base ≤ w.heap.size)
  (hK : ∀ v' w', w'.ownsRow base e size v' (n + m) (xs ++ news) → w.grownBy w' v.ownBlock → K (a.put o.dst v') w') :
  if Region.wanted o (yielded ops a.tmps) = true then Oper.wp P o a w K Q else E := by
 have hw : Region.wanted o (yielded ops a.tmps) = true := by simp [Region.wanted, hg]
 rw [if_pos hw]
 obtain ⟨v', w', hrun, r1, r2, _⟩ := run_append_own (P := P) w base t o.type e i z size bytes h1 h2 h3 h4 h5 h6 h7 v n xs hown ad m c news hn hc h1c b1 b2 hbase
 unfold Oper.wp
 simp [execOp, hop, resolve, invoke, builtin, hs, hx, hrun, Result.andThen]
 exact hK v' w' r1 r2
theorem take_snocI {l : List Int} {k : Nat} (h : k < l.length) : l.take (k + 1) = l.take k ++ [l.getD k 0] := by
 rw [List.take_succ_eq_append_getElem h, List.getD_eq_getElem?_getD, List.getElem?_eq_getElem h]; rfl
theorem all_getD {p : Int → Bool} {l : List Int} (h : ∀ k, k < l.length → p (l.getD k 0) = true) : l.all p = true := by
 rw [List.all_eq_true]
 intro x hx
 obtain ⟨k, hk, rfl⟩ := List.mem_iff_getElem.1 hx
 have := h k hk
 rwa [List.getD_eq_getElem?_getD, List.getElem?_eq_getElem hk] at this
theorem all_not {p : Int → Bool} {l : List Int} {k : Nat} (hk : k < l.length) (h : p (l.getD k 0) = false) : l.all p = false := by
 rw [List.all_eq_false]
 refine ⟨l[k], List.getElem_mem hk, ?_⟩
 rw [List.getD_eq_getElem?_getD, List.getElem?_eq_getElem hk] at h
 simpa using h
theorem rty_neg {op wd ret : Int} {ks : List Int} {k : Nat} (hk : k < ks.length) (h : ks.getD k 0 < 0) : rtyB op wd ret ks = false := by
 unfold rtyB
 rw [all_not hk (by simpa using h), Bool.false_and]
theorem rty_pos {ks : List Int} (h : ∀ k, k < ks.length → 0 ≤ ks.getD k 0) : (ks.all fun k => decide (0 ≤ k)) = true := all_getD fun k hk => by
 exact decide_eq_true (h k hk)
theorem held_7r {q : Nat} {p1 p2 p3 p4 p5 p6 o1 o2 o3 o4 o5 o6 : Nat} {v1 v2 v3 v4 v5 v6 : Value} {w3 w1 w2 : World}
  (h : Below q w3 w1 ∧ q ≤ w1.heap.size ∧ w1.cell? ⟨p1, o1, none⟩ = some v1 ∧ w1.cell? ⟨p2, o2, none⟩ = some v2 ∧ w1.cell? ⟨p3, o3, none⟩ = some v3 ∧ w1.cell? ⟨p4, o4, none⟩ = some v4 ∧ w1.cell? ⟨p5, o5, none⟩ = some v5 ∧ w1.cell? ⟨p6, o6, none⟩ = some v6) (hb : Below w1.heap.size w1 w2) :
  Below q w3 w2 ∧ q ≤ w2.heap.size ∧ w2.cell? ⟨p1, o1, none⟩ = some v1 ∧ w2.cell? ⟨p2, o2, none⟩ = some v2 ∧ w2.cell? ⟨p3, o3, none⟩ = some v3 ∧ w2.cell? ⟨p4, o4, none⟩ = some v4 ∧ w2.cell? ⟨p5, o5, none⟩ = some v5 ∧ w2.cell? ⟨p6, o6, none⟩ = some v6 := by
 obtain ⟨h10, h11, h1, h2, h3, h4, h5, h6⟩ := h
 exact ⟨h10.trans (hb.mono h11), Nat.le_trans h11 hb.size, keep h1 hb, keep h2 hb, keep h3 hb, keep h4 hb, keep h5 hb, keep h6 hb⟩

set_option maxRecDepth 100000 in
set_option maxHeartbeats 8000000 in
theorem rtyped_any (F : Fun) (A : FunA) (x : Ins) (aa ta : Option Addr) (ca ct : Nat) (w : World) (hin : FunIn w F A) (hs : FunSm F) (hia : IntsIn w aa x.ar) (har : x.ar.length ≤ 40) (hsh : shapeB F x = true) :
  Calls Tryz.prog 55 #[funV F A, insV x aa ta ca ct] w fun e w' => e = .returned (.bool (rtyB x.op x.wd F.ret (ksI (kdsI F) x))) ∧ Below w.heap.size w w' := by
 have hal : Below w.heap.size w ((w.alloc (.cells #[.slice A.pa F.ps.length A.pc, .int .i64 F.ret, .slice A.sa F.sl.length A.sc, .slice A.ba F.bs.length A.bc] 31)).alloc (.cells #[.int .i64 x.op, .int .i64 x.wd, .int .i64 x.fl, .slice aa x.ar.length ca, .int .u32 x.im, .slice ta x.tt.length ct] 63)) := ((Below.refl _ _).alloc (Nat.le_refl _) _).alloc (by simp) _
 have HI := Lib.hid (hin.below hal)
 have HIA := Lib.hid (hia.below hal)
 have hr0 : ((w.alloc (.cells #[.slice A.pa F.ps.length A.pc, .int .i64 F.ret, .slice A.sa F.sl.length A.sc, .slice A.ba F.bs.length A.bc] 31)).alloc (.cells #[.int .i64 x.op, .int .i64 x.wd, .int .i64 x.fl, .slice aa x.ar.length ca, .int .u32 x.im, .slice ta x.tt.length ct] 63)).heap[w.heap.size]? = some (.cells (funC F A) 31 (0, 0)) := by
  rw [Below.heap_alloc _ _ _ (by simp)]; exact heap_alloc_new _ _
 have hr1 : ((w.alloc (.cells #[.slice A.pa F.ps.length A.pc, .int .i64 F.ret, .slice A.sa F.sl.length A.sc, .slice A.ba F.bs.length A.bc] 31)).alloc (.cells #[.int .i64 x.op, .int .i64 x.wd, .int .i64 x.fl, .slice aa x.ar.length ca, .int .u32 x.im, .slice ta x.tt.length ct] 63)).heap[w.heap.size + 1]? = some (.cells #[.int .i64 x.op, .int .i64 x.wd, .int .i64 x.fl, .slice aa x.ar.length ca, .int .u32 x.im, .slice ta x.tt.length ct] 63 (0, 0)) := by
  have := heap_alloc_new (w.alloc (.cells #[.slice A.pa F.ps.length A.pc, .int .i64 F.ret, .slice A.sa F.sl.length A.sc, .slice A.ba F.bs.length A.bc] 31)) (.cells #[.int .i64 x.op, .int .i64 x.wd, .int .i64 x.fl, .slice aa x.ar.length ca, .int .u32 x.im, .slice ta x.tt.length ct] 63)
  simpa using this
 obtain ⟨g0, g1, g2, g3⟩ := funC_at hr0
 have x0 := cell_of_row _ _ 0 _ _ _ hr1; have x1 := cell_of_row _ _ 1 _ _ _ hr1; have x2 := cell_of_row _ _ 2 _ _ _ hr1
 have x3 := cell_of_row _ _ 3 _ _ _ hr1; have x4 := cell_of_row _ _ 4 _ _ _ hr1; have x5 := cell_of_row _ _ 5 _ _ _ hr1
 have HB0 := Lib.hid hal
 have HK := Lib.hid (fun v u (h : FunIn u F A) => kind_any F A v u h hs)
 have HWi := Lib.hid (fun n u => risWidth_any n u)
 have HSh := Lib.hid (show (x.ar.length : Int) = argsI F.ret x from by
  unfold shapeB at hsh
  simp only [Bool.and_eq_true, decide_eq_true_eq] at hsh
  exact hsh.2.2.2.1)
 have hkl := ksI_len (kdsI F) x
 have HKg := Lib.hid (fun k h => ksI_get (K := kdsI F) (x := x) (k := k) h)
 obtain ⟨i0, hi, hz0, hz1, hz2⟩ := info_parts Tryz.infoInt
 generalize ksI (kdsI F) x = ks at *
 obtain ⟨R, hR⟩ : ∃ R, rtyB x.op x.wd F.ret ks = R := ⟨_, rfl⟩
 rw [hR]
 have HRe : Hid (rtyB x.op x.wd F.ret ks = R) := Lib.hid hR
 clear hin hia hal hr0 hr1 hs hsh hR
 simp only [funV, funC] at HK ⊢
 obtain ⟨op, wd, fl, ar, im, tt⟩ := x
 simp only [insV] at *
 have HKs := Lib.hid hkl; clear hkl
 generalize hna : ar.length = na at *
 have HNa := Lib.hid hna; clear hna
 go_enter Tryz.func55, Tryz.ntmps55
 go_upto_region 1 with fail
 generalize ((w.alloc _).alloc _) = w1 at *
 have HG0 := Lib.hid g0; have HG1 := Lib.hid g1; have HG2 := Lib.hid g2; have HG3 := Lib.hid g3
 have HX0 := Lib.hid x0; have HX1 := Lib.hid x1; have HX3 := Lib.hid x3
 go_wp2_with fail
 clear g0 g1 g2 g3 x0 x1 x2 x3 x4 x5
 go_loopw [5, 6] (fun v i wr => ∃ k : Nat, k ≤ na ∧ i = .int .i64 k ∧ wr.ownsRow w1.heap.size 3 1 v k (encI (ks.take k)) ∧ Hid (∀ j, j < k → 0 ≤ ks.getD j 0) ∧ Below w1.heap.size w1 wr) (fun _ i _ => na - (intOf i).toNat)
 case atStart => exact ⟨0, Nat.zero_le _, rfl, by simpa [encI] using owns_nil _ _ _ _, Lib.hid fun j hj => absurd hj (Nat.not_lt_zero _), Below.refl _ _⟩
 case round =>
  obtain ⟨k, hk, rfl, hown, HNn, hbw⟩ := hrel
  have HBw := Lib.hid hbw
  by_cases hlt : k < na
  ·have hki : (k : Int) < (na : Int) := by omega
   have hkk : k < ks.length := by rw [HKs.out]; exact hlt
   obtain ⟨b3, o3, rfl, ck⟩ := HIA.out k (by rw [HNa.out]; exact hlt)
   have HKz := Lib.hid (HK.out (ar.getD k 0))
   have HEz : Hid (ks.getD k 0 = ofI (kdsI F) (ar.getD k 0)) := Lib.hid (HKg.out k hlt)
   have HSn := Lib.hid (take_snocI hkk)
   have HNeg : Hid (ks.getD k 0 < 0 → R = false) := Lib.hid fun h => HRe.out.symm.trans (rty_neg hkk h)
   rw [← HEz.out] at HKz
   obtain ⟨va, vc, rfl⟩ := owns_shape hown
   have HGb := Lib.hid (fun g hg => owns_block hown (g := g) hg)
   have HOw := Lib.hid hown
   have HTl : Hid ((ks.take k).length = k) := Lib.hid (by rw [List.length_take]; omega)
   generalize ar.getD k 0 = y at *
   generalize hz : ks.getD k 0 = z at *
   have HZ := Lib.hid hz
   generalize hTk : ks.take k = Tk at *
   clear hown hz hkk
   have x3 := keep HX3.out hbw
   go_upto_region 5 with fail
   clear x3
   have hS1 : Below w1.heap.size w1 w1 ∧ w1.heap.size ≤ w1.heap.size ∧ w1.cell? ⟨w.heap.size, 0, none⟩ = some (.slice A.pa F.ps.length A.pc) ∧ w1.cell? ⟨w.heap.size, 1, none⟩ = some (.int .i64 F.ret) ∧ w1.cell? ⟨w.heap.size, 2, none⟩ = some (.slice A.sa F.sl.length A.sc) ∧ w1.cell? ⟨w.heap.size, 3, none⟩ = some (.slice A.ba F.bs.length A.bc) ∧ w1.cell? ⟨w.heap.size + 1, 3, none⟩ = some (.slice (some ⟨b3, o3, none⟩) na ca) ∧ w1.cell? ⟨b3, o3 + k, none⟩ = some (.int .i64 y) := ⟨Below.refl _ _, Nat.le_refl _, HG0.out, HG1.out, HG2.out, HG3.out, HX3.out, ck⟩
   have hS := held_7r hS1 hbw
   have HS1 := Lib.hid hS1
   have HKq := Lib.hid (fun u (hu : Below w1.heap.size w1 u) => HKz.out u (HI.out.below hu))
   have HS63 : Hid (k + 1 ≤ maxLen) := Lib.hid (by unfold maxLen; omega)
   have HSb : Hid ((k + 1) * 8 ≤ 140737488355328) := Lib.hid (by omega)
   clear ck hbw hS1
   go_region_held3 (fun w' => Below w1.heap.size w1 w' ∧ w1.heap.size ≤ w'.heap.size ∧ w'.cell? ⟨w.heap.size, 0, none⟩ = some (.slice A.pa F.ps.length A.pc) ∧ w'.cell? ⟨w.heap.size, 1, none⟩ = some (.int .i64 F.ret) ∧ w'.cell? ⟨w.heap.size, 2, none⟩ = some (.slice A.sa F.sl.length A.sc) ∧ w'.cell? ⟨w.heap.size, 3, none⟩ = some (.slice A.ba F.bs.length A.bc) ∧ w'.cell? ⟨w.heap.size + 1, 3, none⟩ = some (.slice (some ⟨b3, o3, none⟩) na ca) ∧ w'.cell? ⟨b3, o3 + k, none⟩ = some (.int .i64 y))
    (first | exact hS | exact held_7r hS (below_drew1 (Below.refl _ _)) | exact held_7r HS1.out HB9.out | exact held_7r (by assumption) (by assumption) | exact held_7r (by assumption) ((Below.refl _ _).alloc (Nat.le_refl _) _))
    (first | (go_at_call 94; refine (HKq.out _ (And.left ‹Below w1.heap.size w1 _ ∧ _›)).mono ?_; rintro e w4 ⟨rfl, hb4⟩; have hb4 := (by first | exact below_of_drew hb4 | exact hb4); have HB4 := Lib.hid (HBw.out.trans (hb4.mono HBw.out.size)); have HZ4 := Lib.hid (Nat.le_trans HBw.out.size hb4.size); have HO4 := Lib.hid ((owns_below HOw.out hb4).alloc (.cells #[.int .i64 z] 3))) | (refine step_append_own rfl _ _ 28 rfl w1.heap.size 3 i0 (.int .i64 0) 1 8 Tryz.underlying28 hi hz0 hz1 hz2 rfl (by decide) _ _ _ rfl HO4.out ⟨w4.heap.size, 0, none⟩ 1 1 [.int .i64 z] rfl rfl (cell_one_new _ _ _) (by simp [Value.oneCell']) HS63.out HSb.out (by simp; exact Nat.le_succ_of_le HZ4.out) ?_; intro v9 w9 hown9 hgrow9; obtain ⟨va9, vc9, rfl⟩ := owns_shape hown9; have HO9 := Lib.hid hown9; have HB9 := Lib.hid ((HB4.out.alloc HZ4.out (.cells #[.int .i64 z] 3)).grown hgrow9 (by simp; exact Nat.le_succ_of_le HZ4.out) (fun g hg => (HGb.out g hg).1)); clear hown9 hgrow9))
   clear hS HB4 HZ4 HO4 hb4
   rename_i hj1
   clear hj1
   have hzk : (encI Tk ++ [.int .i64 z]) = encI (ks.take (k + 1)) := by rw [HSn.out]; simp [encI]
   have ho9 := HO9.out
   rw [hzk] at ho9
   have HO10 := Lib.hid ho9
   obtain ⟨b9, o9, hva, hck⟩ : ∃ b9 o9, va9 = some ⟨b9, o9, none⟩ ∧ w9.cell? ⟨b9, o9 + k, none⟩ = some (.int .i64 z) := by
    have hl : (ks.take (k + 1)).length = k + 1 := by rw [HSn.out, List.length_append, HTl.out]; rfl
    have ho11 : w9.ownsRow w1.heap.size 3 1 (.slice va9 (k + 1) vc9) (ks.take (k + 1)).length (encI (ks.take (k + 1))) := by rw [hl]; exact ho9
    obtain ⟨_, _, e, _, h⟩ := ints_of_owns ho11
    simp only [Value.slice.injEq] at e
    obtain ⟨rfl, _, _⟩ := e
    obtain ⟨b9, o9, e2, h2⟩ := h k (by omega)
    exact ⟨b9, o9, e2, by rw [HSn.out] at h2; simpa [List.getD_eq_getElem?_getD, HTl.out] using h2⟩
   subst hva
   clear ho9 hzk
   by_cases hneg : z < 0
   ·obtain rfl := HNeg.out hneg
    have HE := Lib.hid (HB0.out.trans (HB9.out.mono HB0.out.size))
    go_wp2_with fail
    go_ret
    exact ⟨rfl, HE.out⟩
   ·have HNx : Hid (∀ j, j < k + 1 → 0 ≤ ks.getD j 0) := Lib.hid fun j hj => by
     by_cases e : j = k
     ·subst e; rw [HZ.out]; omega
     ·exact HNn.out j (by omega)
    go_wp2_with fail
    go_roundw
    case rel => exact ⟨k + 1, by omega, by go_num, HO10.out, HNx, HB9.out⟩
    case measure => simp [intOf]; omega
  obtain rfl : k = na := by omega
  have hAll : (ks.all fun k => decide (0 ≤ k)) = true := rty_pos (fun j hj => HNn.out j (by rw [HKs.out] at hj; exact hj))
  have hTk : ks.take k = ks := List.take_of_length_le (by rw [HKs.out]; exact Nat.le_refl _)
  rw [hTk] at hown
  obtain ⟨ka, kc, rfl⟩ := owns_shape hown
  have hki : IntsIn wr ka ks := by
   have hown2 : wr.ownsRow w1.heap.size 3 1 (.slice ka k kc) ks.length (encI ks) := by rw [HKs.out]; exact hown
   obtain ⟨_, _, e, _, h⟩ := ints_of_owns hown2
   simp only [Value.slice.injEq] at e
   obtain ⟨rfl, _, _⟩ := e
   exact h
  have HIn := Lib.hid hki
  have HB := Lib.hid (HB0.out.trans (hbw.mono HB0.out.size))
  have x0 := keep HX0.out hbw; have x1 := keep HX1.out hbw; have x3 := keep HX3.out hbw; have d1 := keep HG1.out hbw
  have HAll := Lib.hid hAll
  have hlt : ¬ (k : Int) < (k : Int) := by omega
  clear hAll hTk hown hki hbw HNn hk
  go_upto_region 9 with fail
  clear x3 hlt
  by_cases o14 : op = 14
  ·subst o14
   obtain rfl : k = 2 := by have h := HSh.out; simp [argsI, clsI] at h; omega
   obtain ⟨b9, o9, rfl, c0⟩ := HIn.out 0 (by rw [HKs.out]; decide)
   obtain ⟨_, _, e1, c1⟩ := HIn.out 1 (by rw [HKs.out]; decide)
   cases e1
   have HE : Hid (R = (isNum (ks.getD 0 0) && decide (ks.getD 1 0 = ks.getD 0 0))) := Lib.hid (HRe.out.symm.trans (by unfold rtyB; rw [HAll.out]; simp))
   generalize ks.getD 0 0 = z0 at *
   generalize ks.getD 1 0 = z1 at *
   simp only [Nat.add_zero] at c0
   go_upto_region 10 with fail
   have HW0 := Lib.hid (HWi.out z0)
   generalize isNum z0 = n0 at *
   cases n0
   ·skip
    obtain rfl : R = false := by rw [HE.out]; simp []
    go_quiet ((go_at_call 52; exact Calls.quiet_of_same (HW0.out _)))
    go_wp2_with fail
    go_ret
    exact ⟨rfl, by first | exact HB.out | exact below_drewN HB.out _⟩
   ·by_cases hq : z1 = z0
    ·have q : (z1 == z0) = true := by simp [hq]
     obtain rfl : R = true := by rw [HE.out]; simp [hq]
     go_quiet ((go_at_call 52; exact Calls.quiet_of_same (HW0.out _)))
     go_wp2_with fail
     go_ret
     exact ⟨rfl, by first | exact HB.out | exact below_drewN HB.out _⟩
    ·have q : (z1 == z0) = false := by simp [hq]
     obtain rfl : R = false := by rw [HE.out]; simp [hq]
     go_quiet ((go_at_call 52; exact Calls.quiet_of_same (HW0.out _)))
     go_wp2_with fail
     go_ret
     exact ⟨rfl, by first | exact HB.out | exact below_drewN HB.out _⟩
  have t14 : (op == 14) = false := by simp [o14]
  go_upto_region 11 with fail
  clear t14
  by_cases o15 : op = 15
  ·subst o15
   obtain rfl : k = 3 := by have h := HSh.out; simp [argsI, clsI] at h; omega
   obtain ⟨b9, o9, rfl, c0⟩ := HIn.out 0 (by rw [HKs.out]; decide)
   obtain ⟨_, _, e1, c1⟩ := HIn.out 1 (by rw [HKs.out]; decide)
   cases e1
   obtain ⟨_, _, e2, c2⟩ := HIn.out 2 (by rw [HKs.out]; decide)
   cases e2
   have HE : Hid (R = (decide (ks.getD 0 0 = 1) && (decide (ks.getD 1 0 = wd) && decide (ks.getD 2 0 = wd)))) := Lib.hid (HRe.out.symm.trans (by unfold rtyB; rw [HAll.out]; simp))
   generalize ks.getD 0 0 = z0 at *
   generalize ks.getD 1 0 = z1 at *
   generalize ks.getD 2 0 = z2 at *
   simp only [Nat.add_zero] at c0
   go_upto_region 12 with fail
   by_cases h0 : z0 = 1
   rotate_left
   ·have q0 : (z0 == 1) = false := by simp [h0]
    obtain rfl : R = false := by rw [HE.out]; simp [h0]
    clear h0
    go_quiet (fail)
    go_wp2_with fail
    go_ret
    exact ⟨rfl, by first | exact HB.out | exact below_drewN HB.out _⟩
   have q0 : (z0 == 1) = true := by simp [h0]
   by_cases h1 : z1 = wd
   rotate_left
   ·have q1 : (z1 == wd) = false := by simp [h1]
    obtain rfl : R = false := by rw [HE.out]; simp [h1]
    clear h0 h1
    go_quiet (fail)
    go_wp2_with fail
    go_ret
    exact ⟨rfl, by first | exact HB.out | exact below_drewN HB.out _⟩
   have q1 : (z1 == wd) = true := by simp [h1]
   by_cases h2 : z2 = wd
   rotate_left
   ·have q2 : (z2 == wd) = false := by simp [h2]
    obtain rfl : R = false := by rw [HE.out]; simp [h2]
    clear h0 h1 h2
    go_quiet (fail)
    go_wp2_with fail
    go_ret
    exact ⟨rfl, by first | exact HB.out | exact below_drewN HB.out _⟩
   have q2 : (z2 == wd) = true := by simp [h2]
   obtain rfl : R = true := by rw [HE.out]; simp [h0, h1, h2]
   go_quiet (fail)
   go_wp2_with fail
   go_ret
   exact ⟨rfl, by first | exact HB.out | exact below_drewN HB.out _⟩
  have t15 : (op == 15) = false := by simp [o15]
  go_upto_region 13 with fail
  clear t15
  by_cases o16 : op = 16
  ·subst o16
   obtain rfl : k = 1 := by have h := HSh.out; simp [argsI, clsI] at h; omega
   obtain ⟨b9, o9, rfl, c0⟩ := HIn.out 0 (by rw [HKs.out]; decide)
   have HE : Hid (R = (isNum (ks.getD 0 0) && decide (ks.getD 0 0 < wd))) := Lib.hid (HRe.out.symm.trans (by unfold rtyB; rw [HAll.out]; simp))
   generalize ks.getD 0 0 = z0 at *
   simp only [Nat.add_zero] at c0
   go_upto_region 15 with fail
   have HW0 := Lib.hid (HWi.out z0)
   generalize isNum z0 = n0 at *
   cases n0
   ·skip
    obtain rfl : R = false := by rw [HE.out]; simp []
    go_quiet ((go_at_call 52; exact Calls.quiet_of_same (HW0.out _)))
    go_wp2_with fail
    go_ret
    exact ⟨rfl, by first | exact HB.out | exact below_drewN HB.out _⟩
   ·by_cases hq : z0 < wd
    ·have q : decide (z0 < wd) = true := by simp [hq]
     obtain rfl : R = true := by rw [HE.out]; simp [hq]
     go_quiet ((go_at_call 52; exact Calls.quiet_of_same (HW0.out _)))
     go_wp2_with fail
     go_ret
     exact ⟨rfl, by first | exact HB.out | exact below_drewN HB.out _⟩
    ·have q : decide (z0 < wd) = false := by simp [hq]
     obtain rfl : R = false := by rw [HE.out]; simp [hq]
     go_quiet ((go_at_call 52; exact Calls.quiet_of_same (HW0.out _)))
     go_wp2_with fail
     go_ret
     exact ⟨rfl, by first | exact HB.out | exact below_drewN HB.out _⟩
  have t16 : (op == 16) = false := by simp [o16]
  go_upto_region 14 with fail
  clear t16
  by_cases o17 : op = 17
  ·subst o17
   obtain rfl : k = 1 := by have h := HSh.out; simp [argsI, clsI] at h; omega
   obtain ⟨b9, o9, rfl, c0⟩ := HIn.out 0 (by rw [HKs.out]; decide)
   have HE : Hid (R = (isNum (ks.getD 0 0) && decide (ks.getD 0 0 < wd))) := Lib.hid (HRe.out.symm.trans (by unfold rtyB; rw [HAll.out]; simp))
   generalize ks.getD 0 0 = z0 at *
   simp only [Nat.add_zero] at c0
   go_upto_region 15 with fail
   have HW0 := Lib.hid (HWi.out z0)
   generalize isNum z0 = n0 at *
   cases n0
   ·skip
    obtain rfl : R = false := by rw [HE.out]; simp []
    go_quiet ((go_at_call 52; exact Calls.quiet_of_same (HW0.out _)))
    go_wp2_with fail
    go_ret
    exact ⟨rfl, by first | exact HB.out | exact below_drewN HB.out _⟩
   ·by_cases hq : z0 < wd
    ·have q : decide (z0 < wd) = true := by simp [hq]
     obtain rfl : R = true := by rw [HE.out]; simp [hq]
     go_quiet ((go_at_call 52; exact Calls.quiet_of_same (HW0.out _)))
     go_wp2_with fail
     go_ret
     exact ⟨rfl, by first | exact HB.out | exact below_drewN HB.out _⟩
    ·have q : decide (z0 < wd) = false := by simp [hq]
     obtain rfl : R = false := by rw [HE.out]; simp [hq]
     go_quiet ((go_at_call 52; exact Calls.quiet_of_same (HW0.out _)))
     go_wp2_with fail
     go_ret
     exact ⟨rfl, by first | exact HB.out | exact below_drewN HB.out _⟩
  have t17 : (op == 17) = false := by simp [o17]
  go_upto_region 16 with fail
  clear t17
  by_cases o18 : op = 18
  ·subst o18
   obtain rfl : k = 1 := by have h := HSh.out; simp [argsI, clsI] at h; omega
   obtain ⟨b9, o9, rfl, c0⟩ := HIn.out 0 (by rw [HKs.out]; decide)
   have HE : Hid (R = (isNum (ks.getD 0 0) && decide (wd < ks.getD 0 0))) := Lib.hid (HRe.out.symm.trans (by unfold rtyB; rw [HAll.out]; simp))
   generalize ks.getD 0 0 = z0 at *
   simp only [Nat.add_zero] at c0
   go_upto_region 17 with fail
   have HW0 := Lib.hid (HWi.out z0)
   generalize isNum z0 = n0 at *
   cases n0
   ·skip
    obtain rfl : R = false := by rw [HE.out]; simp []
    go_quiet ((go_at_call 52; exact Calls.quiet_of_same (HW0.out _)))
    go_wp2_with fail
    go_ret
    exact ⟨rfl, by first | exact HB.out | exact below_drewN HB.out _⟩
   ·by_cases hq : wd < z0
    ·have q : decide (wd < z0) = true := by simp [hq]
     obtain rfl : R = true := by rw [HE.out]; simp [hq]
     go_quiet ((go_at_call 52; exact Calls.quiet_of_same (HW0.out _)))
     go_wp2_with fail
     go_ret
     exact ⟨rfl, by first | exact HB.out | exact below_drewN HB.out _⟩
    ·have q : decide (wd < z0) = false := by simp [hq]
     obtain rfl : R = false := by rw [HE.out]; simp [hq]
     go_quiet ((go_at_call 52; exact Calls.quiet_of_same (HW0.out _)))
     go_wp2_with fail
     go_ret
     exact ⟨rfl, by first | exact HB.out | exact below_drewN HB.out _⟩
  have t18 : (op == 18) = false := by simp [o18]
  go_upto_region 18 with fail
  clear t18
  by_cases o25 : op = 25
  ·subst o25
   obtain rfl : k = 2 := by have h := HSh.out; simp [argsI, clsI] at h; omega
   obtain ⟨b9, o9, rfl, c0⟩ := HIn.out 0 (by rw [HKs.out]; decide)
   obtain ⟨_, _, e1, c1⟩ := HIn.out 1 (by rw [HKs.out]; decide)
   cases e1
   have HE : Hid (R = (decide (ks.getD 0 0 = 33) && isNum (ks.getD 1 0))) := Lib.hid (HRe.out.symm.trans (by unfold rtyB; rw [HAll.out]; simp))
   generalize ks.getD 0 0 = z0 at *
   generalize ks.getD 1 0 = z1 at *
   simp only [Nat.add_zero] at c0
   go_upto_region 19 with fail
   by_cases h0 : z0 = 33
   rotate_left
   ·have q : (z0 == 33) = false := by simp [h0]
    obtain rfl : R = false := by rw [HE.out]; simp [h0]
    clear h0
    go_wp2_with fail
    go_ret
    exact ⟨rfl, by first | exact HB.out | exact below_drewN HB.out _⟩
   have q : (z0 == 33) = true := by simp [h0]
   have HW1 := Lib.hid (HWi.out z1)
   have HE2 : Hid (R = isNum z1) := Lib.hid (by rw [HE.out]; simp [h0])
   generalize isNum z1 = n1 at *
   obtain rfl := HE2.out
   clear h0
   go_wp2_with fail
   refine (HW1.out _).mono ?_; rintro e w5 ⟨rfl, rfl⟩
   go_wp2_with fail
   go_ret
   exact ⟨rfl, by first | exact HB.out | exact below_drewN HB.out _⟩
  have t25 : (op == 25) = false := by simp [o25]
  go_upto_region 20 with fail
  clear t25
  by_cases o26 : op = 26
  ·subst o26
   obtain rfl : k = 1 := by have h := HSh.out; simp [argsI, clsI] at h; omega
   obtain ⟨b9, o9, rfl, c0⟩ := HIn.out 0 (by rw [HKs.out]; decide)
   have HE : Hid (R = (decide (ks.getD 0 0 = 33))) := Lib.hid (HRe.out.symm.trans (by unfold rtyB; rw [HAll.out]; simp))
   generalize ks.getD 0 0 = z0 at *
   simp only [Nat.add_zero] at c0
   go_upto_region 21 with fail
   by_cases h0 : z0 = 33
   ·have q : (z0 == 33) = true := by simp [h0]
    obtain rfl : R = true := by rw [HE.out]; simp [h0]
    clear h0
    go_wp2_with fail
    go_ret
    exact ⟨rfl, by first | exact HB.out | exact below_drewN HB.out _⟩
   ·have q : (z0 == 33) = false := by simp [h0]
    obtain rfl : R = false := by rw [HE.out]; simp [h0]
    clear h0
    go_wp2_with fail
    go_ret
    exact ⟨rfl, by first | exact HB.out | exact below_drewN HB.out _⟩
  have t26 : (op == 26) = false := by simp [o26]
  go_upto_region 22 with fail
  clear t26
  by_cases o27 : op = 27
  ·subst o27
   obtain rfl : k = 2 := by have h := HSh.out; simp [argsI, clsI] at h; omega
   obtain ⟨b9, o9, rfl, c0⟩ := HIn.out 0 (by rw [HKs.out]; decide)
   obtain ⟨_, _, e1, c1⟩ := HIn.out 1 (by rw [HKs.out]; decide)
   cases e1
   have HE : Hid (R = (decide (ks.getD 0 0 = 33) && isMm (ks.getD 1 0))) := Lib.hid (HRe.out.symm.trans (by unfold rtyB; rw [HAll.out]; simp))
   generalize ks.getD 0 0 = z0 at *
   generalize ks.getD 1 0 = z1 at *
   simp only [Nat.add_zero] at c0
   go_upto_region 23 with fail
   by_cases h0 : z0 = 33
   rotate_left
   ·have q : (z0 == 33) = false := by simp [h0]
    obtain rfl : R = false := by rw [HE.out]; simp [h0]
    clear h0
    go_wp2_with fail
    go_ret
    exact ⟨rfl, by first | exact HB.out | exact below_drewN HB.out _⟩
   have q : (z0 == 33) = true := by simp [h0]
   have HE2 : Hid (R = isMm z1) := Lib.hid (by rw [HE.out]; simp [h0])
   clear h0
   by_cases h1 : z1 = 8
   ·have q1 : (z1 == 8) = true := by simp [h1]
    obtain rfl : R = true := by rw [HE2.out]; simp [isMm, h1]
    clear h1
    go_wp2_with fail
    go_ret
    exact ⟨rfl, by first | exact HB.out | exact below_drewN HB.out _⟩
   have q1 : (z1 == 8) = false := by simp [h1]
   by_cases h2 : z1 = 16
   ·have q2 : (z1 == 16) = true := by simp [h2]
    obtain rfl : R = true := by rw [HE2.out]; simp [isMm, h2]
    clear h2
    go_wp2_with fail
    go_ret
    exact ⟨rfl, by first | exact HB.out | exact below_drewN HB.out _⟩
   have q2 : (z1 == 16) = false := by simp [h2]
   by_cases h3 : z1 = 32
   ·have q3 : (z1 == 32) = true := by simp [h3]
    obtain rfl : R = true := by rw [HE2.out]; simp [isMm, h3]
    clear h3
    go_wp2_with fail
    go_ret
    exact ⟨rfl, by first | exact HB.out | exact below_drewN HB.out _⟩
   have q3 : (z1 == 32) = false := by simp [h3]
   obtain rfl : R = false := by rw [HE2.out]; simp [isMm, h1, h2, h3]
   clear h1 h2 h3
   go_wp2_with fail
   go_ret
   exact ⟨rfl, by first | exact HB.out | exact below_drewN HB.out _⟩
  have t27 : (op == 27) = false := by simp [o27]
  go_upto_region 24 with fail
  clear t27
  by_cases o30 : op = 30
  ·subst o30
   obtain rfl : k = 1 := by have h := HSh.out; simp [argsI, clsI] at h; omega
   obtain ⟨b9, o9, rfl, c0⟩ := HIn.out 0 (by rw [HKs.out]; decide)
   have HE : Hid (R = (decide (ks.getD 0 0 = 1))) := Lib.hid (HRe.out.symm.trans (by unfold rtyB; rw [HAll.out]; simp))
   generalize ks.getD 0 0 = z0 at *
   simp only [Nat.add_zero] at c0
   go_upto_region 25 with fail
   by_cases h0 : z0 = 1
   ·have q : (z0 == 1) = true := by simp [h0]
    obtain rfl : R = true := by rw [HE.out]; simp [h0]
    clear h0
    go_wp2_with fail
    go_ret
    exact ⟨rfl, by first | exact HB.out | exact below_drewN HB.out _⟩
   ·have q : (z0 == 1) = false := by simp [h0]
    obtain rfl : R = false := by rw [HE.out]; simp [h0]
    clear h0
    go_wp2_with fail
    go_ret
    exact ⟨rfl, by first | exact HB.out | exact below_drewN HB.out _⟩
  have t30 : (op == 30) = false := by simp [o30]
  go_upto_region 26 with fail
  clear t30
  by_cases o31 : op = 31
  ·subst o31
   have HE : Hid (R = (decide (ks.length = 0) || decide (ks.getD 0 0 = F.ret))) := Lib.hid (HRe.out.symm.trans (by unfold rtyB; rw [HAll.out]; simp))
   go_upto_region 27 with fail
   by_cases hk0 : k = 0
   ·subst hk0
    obtain rfl : R = true := by rw [HE.out, HKs.out]; rfl
    go_quiet (fail)
    go_wp2_with fail
    go_ret
    exact ⟨rfl, by first | exact HB.out | exact below_drewN HB.out _⟩
   obtain ⟨b9, o9, rfl, c0⟩ := HIn.out 0 (by rw [HKs.out]; omega)
   simp only [Nat.add_zero] at c0
   have q0 : ((k : Int) == 0) = false := by rw [beq_eq_false_iff_ne]; omega
   have hk1 : 0 < k := by omega
   have hk2 : (0 : Int) < (k : Int) := by omega
   have HE2 : Hid (R = decide (ks.getD 0 0 = F.ret)) := Lib.hid (by rw [HE.out, HKs.out]; simp [hk0])
   generalize ks.getD 0 0 = z0 at *
   by_cases h0 : z0 = F.ret
   ·have q : (z0 == F.ret) = true := by simp [h0]
    obtain rfl : R = true := by rw [HE2.out]; simp [h0]
    clear h0
    go_quiet (fail)
    go_wp2_with fail
    go_ret
    exact ⟨rfl, by first | exact HB.out | exact below_drewN HB.out _⟩
   ·have q : (z0 == F.ret) = false := by simp [h0]
    obtain rfl : R = false := by rw [HE2.out]; simp [h0]
    clear h0
    go_quiet (fail)
    go_wp2_with fail
    go_ret
    exact ⟨rfl, by first | exact HB.out | exact below_drewN HB.out _⟩
  have t31 : (op == 31) = false := by simp [o31]
  go_upto_region 28 with fail
  clear t31
  have HE : Hid (R = ks.all fun k => decide (k = wd)) := Lib.hid (HRe.out.symm.trans (by unfold rtyB; rw [HAll.out, Bool.true_and, if_neg o14, if_neg o15, if_neg (by omega), if_neg o18, if_neg o25, if_neg o26, if_neg o27, if_neg o30, if_neg o31]))
  have HC1 := Lib.hid x1
  obtain ⟨wo, rfl⟩ : ∃ wo, wo = wr := ⟨_, rfl⟩
  clear x0 x1 d1 o14 o15 o16 o17 o18 o25 o26 o27 o30 o31
  go_wp2_with fail
  go_loopw [7] (fun i wr => ∃ j : Nat, j ≤ k ∧ i = .int .i64 j ∧ Hid (∀ m, m < j → ks.getD m 0 = wd) ∧ Below wo.heap.size wo wr) (fun i _ => k - (intOf i).toNat)
  case atStart => exact ⟨0, Nat.zero_le _, rfl, Lib.hid fun j hj => absurd hj (Nat.not_lt_zero _), Below.refl _ _⟩
  case round =>
   obtain ⟨j, hj, rfl, HJ, hbj⟩ := hrel
   have HBj := Lib.hid hbj
   have HBB := Lib.hid (HB.out.trans (hbj.mono HB.out.size))
   have x1 := keep HC1.out hbj
   by_cases hlj : j < k
   rotate_left
   ·obtain rfl : j = k := by omega
    obtain rfl : R = true := HE.out.trans (all_getD fun m hm => decide_eq_true (HJ.out m (by rw [HKs.out] at hm; exact hm)))
    clear hbj x1
    go_wp2_with fail
    go_ret
    exact ⟨rfl, HBB.out⟩
   have hji : (j : Int) < (k : Int) := by omega
   obtain ⟨b9, o9, rfl, ck⟩ := (HIn.out.below hbj) j (by rw [HKs.out]; exact hlj)
   have HNx : Hid (ks.getD j 0 = wd → ∀ m, m < j + 1 → ks.getD m 0 = wd) := Lib.hid fun h m hm => by
    by_cases e : m = j
    ·subst e; exact h
    ·exact HJ.out m (by omega)
   have HNo : Hid (ks.getD j 0 ≠ wd → R = false) := Lib.hid fun h => HE.out.trans (all_not (by rw [HKs.out]; exact hlj) (decide_eq_false h))
   generalize ks.getD j 0 = z at *
   clear hbj
   go_upto_region 31 with fail
   by_cases hz : z = wd
   ·have q : (z != wd) = false := by simp [hz]
    have HN2 := Lib.hid (HNx.out hz)
    clear hz
    go_quiet (fail)
    go_wp2_with fail
    go_roundw
    case rel => exact ⟨j + 1, by omega, by go_num, HN2, below_drewN HBj.out _⟩
    case measure => simp [intOf]; omega
   ·have q : (z != wd) = true := bne_iff_ne.2 hz
    obtain rfl := HNo.out hz
    clear hz
    go_quiet (fail)
    go_wp2_with fail
    go_ret
    exact ⟨rfl, below_drewN HBB.out _⟩
end Go.Proofs.YtbbbflnnbbaamaaGreatDoor.PK
