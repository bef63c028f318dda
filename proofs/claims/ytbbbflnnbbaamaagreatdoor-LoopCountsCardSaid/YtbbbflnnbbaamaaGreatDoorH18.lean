/- Packed of several texts. -/
import Derived.Test.YtbbbflnnbbaamaaGreatDoorH17
import Derived.Deep.Upon
namespace Go.Proofs.YtbbbflnnbbaamaaGreatDoor.PK
open Go.RowKit

theorem ints_news {w : World} {b off : Nat} {l : List Int} (h : IntsIn w (some ⟨b, off, none⟩) l) : ∀ j u, (encI l)[j]? = some u → w.cell? ((⟨b, off, none⟩ : Addr).add j) = some u := fun j u hj => by
 have hjl : j < l.length := by
  have := (List.getElem?_eq_some_iff.1 hj).1
  rwa [encI_len] at this
 obtain ⟨b', off', e, hc⟩ := h j hjl
 cases e
 rw [encI_get hjl] at hj
 cases hj
 rw [show (⟨b, off, none⟩ : Addr).add j = ⟨b, off + j, none⟩ from by unfold Addr.add; simp; try (intro h; simp [h])]
 exact hc
theorem owns_none (w : World) (B : Nat) (h : B ≤ w.heap.size) (e : TypeId) : (w.alloc (.cells #[] e)).ownsRow B e 1 (.slice (some ⟨w.heap.size, 0, none⟩) 0 0) 0 [] :=
 ⟨rfl, .inr ⟨w.heap.size, 0, #[], rfl, h, heap_alloc_new w _, Nat.le_refl _, Nat.zero_le _, rfl, rfl⟩⟩
theorem wpList_append_ints {ops : Array Oper} {rest : List Oper} {o : Oper} {a : Act} {Q : Exit → Act → World → Prop} (w : World) (hgd : o.guard = none) (s x : Operand) (ho : o.op = .call { callee := .builtin .append, args := #[s, x], argTypes := #[28, 28] })
  (B : Nat) (v : Value) (L : List Int) (hs : a.eval s = v) (hown : w.ownsRow B 3 1 v L.length (encI L)) (aa : Option Addr) (c : Nat) (l : List Int) (hx : a.eval x = .slice aa l.length c) (hin : IntsIn w aa l) (hlen : L.length + l.length ≤ 1000000) (hbase : B ≤ w.heap.size)
  (h : ∀ v' w', w'.ownsRow B 3 1 v' (L ++ l).length (encI (L ++ l)) → w.grownBy w' v.ownBlock → wpList Tryz.prog ops Q rest (a.put o.dst v') w') : wpList Tryz.prog ops Q (o :: rest) a w := by
 obtain ⟨i0, hi, hz0, hz1, hz2⟩ := info_parts Tryz.infoInt
 cases aa with
 | some ad =>
  obtain ⟨b, off, sp⟩ := ad
  by_cases hl : l = []
  ·subst hl
   refine wpList_append_own w hgd s x 28 ho B 3 i0 _ 1 8 Tryz.underlying28 hi hz0 hz1 hz2 rfl (by decide) v L.length (encI L) hs hown ⟨b, off, sp⟩ 0 c [] hx rfl (fun j u hj => by simp at hj) (fun u hu => by simp at hu) (by simp at hlen; unfold maxLen; omega) (by simp at hlen; omega) hbase fun v' w' h1 h2 _ => ?_
   exact h v' w' (by simpa using h1) h2
  ·obtain ⟨b', off', e, _⟩ := hin 0 (List.length_pos_iff.2 hl)
   cases e
   refine wpList_append_own w hgd s x 28 ho B 3 i0 _ 1 8 Tryz.underlying28 hi hz0 hz1 hz2 rfl (by decide) v L.length (encI L) hs hown ⟨b, off, none⟩ l.length c (encI l) hx (by rw [encI_len, Nat.mul_one]) (ints_news hin) (encI_one l) (by unfold maxLen; omega) (by omega) hbase fun v' w' h1 h2 _ => ?_
   exact h v' w' (by rw [show encI (L ++ l) = encI L ++ encI l from by simp [encI], List.length_append]; exact h1) h2
 | none =>
  have hl : l = [] := by
   cases l with
   | nil => rfl
   | cons y l => obtain ⟨b', off', e, _⟩ := hin 0 (by simp); cases e
  subst hl
  obtain ⟨b, n, rfl⟩ := owns_shape hown
  have hle : L.length ≤ n := by
   obtain ⟨_, ⟨e, h0⟩ | ⟨g, cap, cur, e, _, _, hnc, _⟩⟩ := hown
   ·omega
   ·simp only [Value.slice.injEq] at e; omega
  have hrun := run_append_nothing (P := Tryz.prog) w 28 28 o.type 3 i0 Tryz.underlying28 hi b L.length n hle (.slice none 0 c) ⟨.inl ⟨_, Tryz.underlying28⟩, fun w' => rfl, by rfl, by rfl, by simp, fun u hu => by simp at hu⟩
  refine wpList_plain hgd fun K' hK' => ?_
  have hs' : a.eval s = .slice b L.length n := hs
  have hx' : a.eval x = .slice none 0 c := hx
  unfold Oper.wp execOp
  simp only [ho, resolve, invoke, builtin, Sem.run_bind, Sem.run_pure, Result.andThen_ok, List.map_toArray, List.map_cons, List.map_nil, hs', hx', hrun]
  exact hK' _ _ (h _ _ (by simpa using hown) ⟨rfl, rfl, rfl, Nat.le_refl _, fun _ _ _ => rfl⟩)
set_option maxRecDepth 100000 in
set_option maxHeartbeats 4000000 in
theorem rgraph_any (F : Fun) (A : FunA) (w : World) (hE : FBIn w A.ba F.bs) (hbl : F.bs.length ≤ 1000) (hbn : ∀ k, k < F.bs.length → 0 < (atBk F.bs k).length ∧ (atBk F.bs k).length ≤ 1000) (htl : ∀ k, k < F.bs.length → (lasI (atBk F.bs k)).tt.length ≤ 1000) :
  Calls Tryz.prog 29 #[funV F A] w fun e w' => (∃ v, e = .returned v ∧ RowsOwn w' w.heap.size v (gI F)) ∧ Below w.heap.size w w' := by
 have hal : Below w.heap.size w (w.alloc (.cells #[.slice A.pa F.ps.length A.pc, .int .i64 F.ret, .slice A.sa F.sl.length A.sc, .slice A.ba F.bs.length A.bc] 31)) := (Below.refl _ _).alloc (Nat.le_refl _) _
 have HE := Lib.hid (hE.below hal)
 have hr0 : (w.alloc (.cells #[.slice A.pa F.ps.length A.pc, .int .i64 F.ret, .slice A.sa F.sl.length A.sc, .slice A.ba F.bs.length A.bc] 31)).heap[w.heap.size]? = some (.cells (funC F A) 31 (0, 0)) := heap_alloc_new _ _
 obtain ⟨g0, g1, g2, g3⟩ := funC_at hr0
 have HB0 := Lib.hid hal
 have HG3 := Lib.hid g3
 have HBn := Lib.hid hbn; have HTl := Lib.hid htl
 have HG : Hid ((gI F).take F.bs.length = gI F) := Lib.hid (List.take_of_length_le (by rw [gI_len]; exact Nat.le_refl _))
 have HGt := Lib.hid (fun k h => gI_tl (F := F) (k := k) h)
 have HGs := Lib.hid (fun k h => gI_snoc (F := F) (k := k) h)
 obtain ⟨j0, hj, jp0, jp1, jp2⟩ := info_parts infoRowI
 clear hE hal hr0 hbn htl
 generalize gI F = G at *
 simp only [funV, funC]
 go_enter Tryz.func29, Tryz.ntmps29
 go_upto_region 1 with fail
 generalize w.alloc (.cells #[.slice A.pa F.ps.length A.pc, .int .i64 F.ret, .slice A.sa F.sl.length A.sc, .slice A.ba F.bs.length A.bc] 31) = w1 at *
 generalize hn : F.bs.length = n at *
 have HN := Lib.hid hn; clear hn
 go_wp2_with fail
 clear g0 g1 g2 g3
 go_loopw [4, 3] (fun i v wr => ∃ k : Nat, k ≤ n ∧ i = .int .i64 k ∧ RowsOwn wr w1.heap.size v (G.take k) ∧ Below w1.heap.size w1 wr) (fun i _ _ => n - (intOf i).toNat)
 case atStart => exact ⟨0, Nat.zero_le _, rfl, RowsOwn.nil _ _, Below.refl _ _⟩
 case round =>
  obtain ⟨k, hk, rfl, hro, hb⟩ := hrel
  have g3 := keep HG3.out hb
  by_cases hlt : k < n
  rotate_left
  ·obtain rfl : k = n := by omega
   have hro2 := hro.base HB0.out.size
   rw [HG.out] at hro2
   have HF := Lib.hid (And.intro hro2 (HB0.out.trans (hb.mono HB0.out.size)))
   clear hro hb hro2
   go_wp2_with fail
   go_ret
   exact ⟨⟨_, rfl, HF.out.1⟩, HF.out.2⟩
  have hki : (k : Int) < (n : Int) := by omega
  obtain ⟨b, off, a', cap, ha, hc, hin⟩ := HE.out.below hb k (by rw [HN.out]; exact hlt)
  obtain ⟨hm0, hm1⟩ := HBn.out k hlt
  obtain ⟨b2, off2, aa, ta, ca, ct, rfl, hx⟩ := hin ((atBk F.bs k).length - 1) (by omega)
  have hxx : atI (atBk F.bs k) ((atBk F.bs k).length - 1) = lasI (atBk F.bs k) := rfl
  rw [hxx] at hx
  have htt := HTl.out k hlt
  have HSn := Lib.hid (HGs.out k hlt)
  have HLt := Lib.hid (HGt.out k (by omega))
  have HX := Lib.hid hx
  have HTt := Lib.hid (hx.below ((Below.refl wr.heap.size wr).alloc (Nat.le_refl _) (.cells #[] 3))).it
  have x5 := hx.c5
  rw [ha] at g3
  clear hin hxx hx ha
  generalize hm : (atBk F.bs k).length = m at *
  clear hm
  generalize lasI (atBk F.bs k) = x at *
  have hsub : wrap64 ((m : Int) - 1) = (m : Int) - 1 := IntWalk.wrap64_in _ (by omega)
  have hix : ((m : Int) - 1).toNat = m - 1 := by omega
  have hi0 : (0 : Int) ≤ (m : Int) - 1 := by omega
  have hi1 : (m : Int) - 1 < (m : Int) := by omega
  obtain ⟨vals, hov, hra⟩ := hro
  obtain ⟨oa, oc, rfl⟩ := owns_shape hov
  have HHv := Lib.hid (fun g e => owns_block hov (g := g) e)
  generalize hQ : G.take k = Q at *
  have HQ := Lib.hid hQ; clear hQ
  have HOv := Lib.hid hov; have HRa := Lib.hid hra; have HB := Lib.hid hb
  have hql : Q.length ≤ 1000 := by rw [HLt.out]; omega
  have HZr := Lib.hid HB.out.size
  have hba : Below wr.heap.size wr (wr.alloc (.cells #[] 3)) := (Below.refl _ _).alloc (Nat.le_refl _) _
  have HBa := Lib.hid hba
  have HOe := Lib.hid (owns_none wr wr.heap.size (Nat.le_refl _) 3)
  have hsm : ([] : List Int).length + x.tt.length ≤ 1000000 := by simp; omega
  have HSm := Lib.hid hsm
  have HZa := Lib.hid hba.size
  have h5' := keep x5 hba
  have hS63 : Q.length + 1 ≤ maxLen := by unfold maxLen; omega
  have HS63 := Lib.hid hS63
  have HSb : Hid ((Q.length + 1) * 24 ≤ 140737488355328) := Lib.hid (by omega)
  clear hov hra hb hba hsm hS63
  go_wp2_with (first | (at_builtin; refine wpList_append_ints _ rfl _ _ rfl wr.heap.size _ [] rfl HOe.out ta ct x.tt rfl HTt.out HSm.out HZa.out ?_; intro v6 w6 ho6 hg6; obtain ⟨va, vc, rfl⟩ := owns_shape ho6; have HO6 := Lib.hid ho6; have HB6 := Lib.hid (HBa.out.grown hg6 HZa.out (fun g hg => (owns_block HOe.out hg).1)); have HOv6 := Lib.hid ((owns_below HOv.out HB6.out).alloc (.cells #[.slice va ([] ++ x.tt).length vc] 28)); have HZ6 : Hid (w1.heap.size ≤ (w6.alloc (.cells #[.slice va ([] ++ x.tt).length vc] 28)).heap.size) := Lib.hid (by have := HB6.out.size; have := HZr.out; simp; omega); clear ho6 hg6) | (at_builtin; refine wpList_append_own_at _ rfl _ _ 39 rfl w1.heap.size 28 j0 (.slice none 0 0) 1 24 Tryz.underlying39 hj jp0 jp1 jp2 rfl (by decide) _ _ _ rfl HOv6.out ⟨w6.heap.size, 0, none⟩ 1 1 [.slice va ([] ++ x.tt).length vc] rfl rfl (cell_one_at _ _ _) (by simp [Value.oneCell']) HS63.out HSb.out HZ6.out ?_; intro v9 w9 hown9 hgrow9 _ hat9; have HO9 := Lib.hid hown9; have HG9 := Lib.hid hgrow9; have HA9 := Lib.hid hat9; clear hown9 hgrow9 hat9))
  go_roundw
  case rel =>
   simp only [List.nil_append] at HO6 HO9 HG9 HA9
   have hbq : Below w1.heap.size w1 (w6.alloc (.cells #[.slice va x.tt.length vc] 28)) := (HB.out.trans (HB6.out.mono HZr.out)).alloc (by have := HB6.out.size; have := HZr.out; omega) _
   exact ⟨k + 1, by omega, by go_num, by rw [HSn.out]; exact RowsOwn.snoc_own (owns_below HOv.out HB6.out) (HRa.out.below HB6.out) (fun g hg => (HHv.out g hg).2) HZr.out HO6.out HO9.out HG9.out HA9.out, hbq.grown HG9.out hbq.size (fun g hg => (HHv.out g hg).1)⟩
  case measure => simp [intOf]; omega
def befK (g : List (List Int)) (v : Int) (k : Nat) : List Int := ((List.range k).filter fun b => decide (v ∈ g.getD b [])).map fun (b : Nat) => (b : Int)
theorem befK_yes {g : List (List Int)} {v : Int} {k : Nat} (h : decide (v ∈ g.getD k []) = true) : befK g v (k + 1) = befK g v k ++ [(k : Int)] := by
 unfold befK
 rw [List.range_succ, List.filter_append, List.map_append]
 simp only [List.filter_cons, List.filter_nil, h, if_true, List.map_cons, List.map_nil]
theorem befK_no {g : List (List Int)} {v : Int} {k : Nat} (h : decide (v ∈ g.getD k []) = false) : befK g v (k + 1) = befK g v k := by
 unfold befK
 rw [List.range_succ, List.filter_append, List.map_append]
 simp only [List.filter_cons, List.filter_nil, h, Bool.false_eq_true, if_false, List.map_nil, List.append_nil]
theorem befK_len (g : List (List Int)) (v : Int) (k : Nat) : (befK g v k).length ≤ k := by
 unfold befK
 rw [List.length_map]
 exact Nat.le_trans (List.length_filter_le _ _) (by simp)
set_option maxRecDepth 100000 in
set_option maxHeartbeats 4000000 in
theorem rbefore_any (g : List (List Int)) (a : Option Addr) (cap : Nat) (v : Int) (w : World) (hin : RowsIn w a g) (hl : g.length ≤ 1000) (hr : ∀ k, k < g.length → (g.getD k []).length ≤ 1000) :
  Calls Tryz.prog 92 #[.slice a g.length cap, .int .i64 v] w fun e w' => (∃ u, e = .returned u ∧ w'.ownsRow w.heap.size 3 1 u (befK g v g.length).length (encI (befK g v g.length))) ∧ Below w.heap.size w w' := by
 have HI := Lib.hid hin; have HR := Lib.hid hr
 have HY := Lib.hid (fun k h => befK_yes (g := g) (v := v) (k := k) h)
 have HN := Lib.hid (fun k h => befK_no (g := g) (v := v) (k := k) h)
 have HL := Lib.hid (fun k => befK_len g v k)
 have H0 : Hid (befK g v 0 = []) := Lib.hid rfl
 obtain ⟨i0, hi, ip0, ip1, ip2⟩ := info_parts Tryz.infoInt
 clear hin hr
 generalize hn : g.length = n at *
 have HNn := Lib.hid hn; clear hn
 generalize hbk : befK g v = BK at *
 clear hbk
 go_enter Tryz.func92, Tryz.ntmps92
 go_wp2_with fail
 go_loopw [6, 5] (fun i u wr => ∃ k : Nat, k ≤ n ∧ i = .int .i64 k ∧ wr.ownsRow w.heap.size 3 1 u (BK k).length (encI (BK k)) ∧ Below w.heap.size w wr) (fun i _ _ => n - (intOf i).toNat)
 case atStart => exact ⟨0, Nat.zero_le _, rfl, by rw [H0.out]; exact owns_nil _ _ _ _, Below.refl _ _⟩
 case round =>
  obtain ⟨k, hk, rfl, ho, hb⟩ := hrel
  have HO := Lib.hid ho; have HB := Lib.hid hb
  by_cases hlt : k < n
  rotate_left
  ·obtain rfl : k = n := by omega
   clear ho hb
   go_wp2_with fail
   go_ret
   exact ⟨⟨_, rfl, HO.out⟩, HB.out⟩
  have hki : (k : Int) < (n : Int) := by omega
  obtain ⟨b, off, a', cap', rfl, hc, hi'⟩ := HI.out.below hb k (by rw [HNn.out]; exact hlt)
  have hrl := HR.out k hlt
  have HH := Lib.hid (has_any (g.getD k []) a' cap' v wr hi' (by omega))
  have hy := HY.out k; have hno := HN.out k
  have hln := HL.out k
  obtain ⟨ua, uc, rfl⟩ := owns_shape ho
  clear ho hb hi'
  generalize hdd : decide (v ∈ g.getD k []) = r at *
  clear hdd
  generalize (g.getD k []).length = m at *
  generalize hbk : BK k = L at *
  have HBk := Lib.hid hbk; clear hbk
  go_wp2_with fail
  refine HH.out.mono ?_; rintro e w2 ⟨rfl, hb2⟩
  have HO2 := Lib.hid (owns_below HO.out hb2)
  have HB2 := Lib.hid (HB.out.trans (hb2.mono HB.out.size))
  clear hb2 hc HH
  cases r
  ·have e := hno rfl
   have HE := Lib.hid e
   clear hy hno e
   go_wp2_with fail
   go_roundw
   case rel => exact ⟨k + 1, by omega, by go_num, by rw [HE.out]; exact HO2.out, HB2.out⟩
   case measure => simp [intOf]; omega
  ·have e := hy rfl
   have HE := Lib.hid e
   have HN6 := Lib.hid (cell_one_at w2 (.int .i64 (k : Int)) 3)
   have HO6 := Lib.hid (HO2.out.alloc (.cells #[.int .i64 (k : Int)] 3))
   have HB6 := Lib.hid (HB2.out.alloc HB2.out.size (.cells #[.int .i64 (k : Int)] 3))
   have HS63 : Hid (L.length + 1 ≤ maxLen) := Lib.hid (by unfold maxLen; omega)
   have HSb : Hid ((L.length + 1) * 8 ≤ 140737488355328) := Lib.hid (by omega)
   have HG5 := Lib.hid (fun g hg => (owns_block HO2.out (g := g) hg).1)
   clear hy hno e
   go_wp2_with (at_builtin; refine wpList_append_own_at _ rfl _ _ 28 rfl w.heap.size 3 i0 (.int .i64 0) 1 8 Tryz.underlying28 hi ip0 ip1 ip2 rfl (by decide) _ _ _ rfl HO6.out ⟨w2.heap.size, 0, none⟩ 1 1 [.int .i64 (k : Int)] rfl rfl HN6.out (one_int _) HS63.out HSb.out HB6.out.size ?_; intro v9 w9 hown9 hgrow9 _ _; obtain ⟨v9a, v9c, rfl⟩ := owns_shape hown9; have HO9 := Lib.hid hown9; have HB9 := Lib.hid (HB6.out.grown hgrow9 HB6.out.size (fun g hg => HG5.out g hg)); clear hown9 hgrow9)
   go_roundw
   case rel => exact ⟨k + 1, by omega, by go_num, by rw [HE.out, List.length_append, encI_snoc]; exact HO9.out, HB9.out⟩
   case measure => simp [intOf]; omega
theorem getDm {l : List Int} {i : Nat} (h : i < l.length) : l.getD i 0 ∈ l := by
 rw [List.getD_eq_getElem?_getD, List.getElem?_eq_getElem h]; exact List.getElem_mem h
def RchO (G : FL.Gr) (but : Int) (w2 : World) (q n r : Nat) (wr : World) : Prop := ∃ S, RndO G but S r ∧ BlRow wr q n S ∧ Save q w2 wr
def RchB (G : FL.Gr) (but : Int) (S : FL.NSet) (w2 : World) (q n b : Nat) (wr : World) : Prop := ∃ S', RndI G but S S' b ∧ BlRow wr q n S' ∧ Save q w2 wr
def RchI (G : FL.Gr) (but : Int) (S : FL.NSet) (w2 : World) (q n b : Nat) (row : List Int) (i : Nat) (wr : World) : Prop := ∃ S', RndI G but S S' b ∧ (∀ k, k < i → row.getD k 0 ≠ but → S' (row.getD k 0).toNat = true) ∧ BlRow wr q n S' ∧ Save q w2 wr
theorem Tryz.infoBl : (Tryz.prog.info? 4).map (fun i => (i.zero, i.size, i.bytes)) = some (some (.bool false), 1, 1) := by kernel_rfl
theorem boolean_made (w : World) (n : Nat) : BlRow (w.alloc (.cells (madeCells #[.bool false] n) 4)) w.heap.size n (fun _ => false) := by
 unfold BlRow
 rw [valArr_made]
 exact heap_alloc_new _ _
set_option maxRecDepth 100000 in
set_option maxHeartbeats 4000000 in
theorem rreached_any (g : List (List Int)) (a : Option Addr) (cap : Nat) (but : Int) (w : World) (hin : RowsIn w a g) (ok : FL.OkG (FL.gN g)) (hr : ∀ k x, k < g.length → x ∈ g.getD k [] → 0 ≤ x ∧ x < g.length) (hb : but < g.length) :
  Calls Tryz.prog 95 #[.slice a g.length cap, .int .i64 but] w fun e w' => (∃ q, e = .returned (.slice (some ⟨q, 0, none⟩) g.length g.length) ∧ w.heap.size ≤ q ∧ BlRow w' q g.length (FL.rs (FL.gN g) but 0)) ∧ Below w.heap.size w w' := by
 have HI := Lib.hid hin; have HR := Lib.hid hr
 have hgl := FL.gN_len g
 have h10 := ok.ten
 have hpos := ok.pos
 rw [hgl] at h10 hpos
 have HMark := Lib.hid (fun S S' b i (h : RndI (FL.gN g) but S S' b) (hb : S' b = true) (hi : i < (g.getD b []).length) (hn : (g.getD b []).getD i 0 ≠ but) (hbl : b < g.length) => h.mark hb (x := ((g.getD b []).getD i 0).toNat) (by
  rw [FL.gN_succ]; exact List.mem_map.2 ⟨_, getDm hi, rfl⟩) (by
  have := hr b ((g.getD b []).getD i 0) hbl (getDm hi)
  omega))
 have HNext := Lib.hid (fun S S' b (h : RndI (FL.gN g) but S S' b) (hd : S' b = true → ∀ i, i < (g.getD b []).length → (g.getD b []).getD i 0 ≠ but → S' ((g.getD b []).getD i 0).toNat = true) (hbl : b < g.length) => h.next (fun hb x hx hne => by
  rw [FL.gN_succ] at hx
  obtain ⟨y, hy, rfl⟩ := List.mem_map.1 hx
  obtain ⟨i, hi, rfl⟩ := List.getElem_of_mem hy
  have h1 := hd hb i hi
  have e : (g.getD b []).getD i 0 = (g.getD b [])[i] := by rw [List.getD_eq_getElem?_getD, List.getElem?_eq_getElem hi]; rfl
  rw [e] at h1
  have := hr b _ hbl hy
  exact h1 (fun c => hne (by omega))))
 have HDone := Lib.hid (fun S S' r (h : RndO (FL.gN g) but S r) (h' : RndI (FL.gN g) but S S' g.length) => RndI.done ok h (by rw [hgl]; exact h'))
 have HAll := Lib.hid (fun S (h : RndO (FL.gN g) but S g.length) => RndO.all ok (by rw [hgl]; exact h))
 have HRow : Hid (∀ b, b < g.length → (g.getD b []).length ≤ 2) := Lib.hid fun b _ => by have := ok.deg b; rw [FL.gN_succ, List.length_map] at this; exact this
 have HNone : Hid (but = 0 → FL.rs (FL.gN g) but 0 = fun _ => false) := Lib.hid fun h => FL.rs_none (by rw [h]; rfl)
 have HSt : Hid (but ≠ 0 → RndO (FL.gN g) but (FL.mark (fun _ => false) 0) 0) := Lib.hid fun h => RndO.start (fun e => h e.symm)
 have hmk := run_make_row' (P := Tryz.prog) 73 4 (.bool false) 1 Tryz.underlying73 Tryz.infoBl rfl .i64 .i64 g.length (by omega) (by omega)
 have HMade := Lib.hid (boolean_made w g.length)
 generalize FL.rs (FL.gN g) but 0 = RS at *
 generalize FL.gN g = G at *
 clear hin hr ok hgl
 generalize hn : g.length = n at *
 have HNn := Lib.hid hn; clear hn
 by_cases hb0 : but = 0
 ·obtain rfl := HNone.out hb0
  have hbe : (but == 0) = true := by simp [hb0]
  clear hb0
  go_enter Tryz.func95, Tryz.ntmps95
  go_wp2_with fail
  go_ret
  exact ⟨⟨_, rfl, Nat.le_refl _, HMade.out⟩, (Below.refl _ _).alloc (Nat.le_refl _) _⟩
 have hbe : (but == 0) = false := by simp [hb0]
 have HS0 := Lib.hid (HSt.out hb0)
 clear hb0
 have c0 := HMade.out.cell (k := 0) hpos
 have f0 := HMade.out.free 0
 have hbA : Below w.heap.size w (w.alloc (.cells (madeCells #[.bool false] n) 4)) := (Below.refl _ _).alloc (Nat.le_refl _) _
 have HBA := Lib.hid hbA
 have hni : (0 : Int) < (n : Int) := by omega
 clear hbA
 go_enter Tryz.func95, Tryz.ntmps95
 go_upto_region 2 with fail
 generalize hw1 : w.alloc (.cells (madeCells #[.bool false] n) 4) = w1 at *
 have HM1 := Lib.hid (HMade.out.mark 0)
 generalize hq : w.heap.size = q at *
 have HQ := Lib.hid hq
 have HB1 : Hid (Below q w (w1.setCell ⟨q, 0, none⟩ (.bool true))) := Lib.hid (HBA.out.setCell (Nat.le_refl _) _)
 clear hw1 hq hmk
 go_upto_region 5 with fail
 generalize w1.setCell ⟨q, 0, none⟩ (.bool true) = w2 at *
 have HW2 : Hid (∀ wr, Save q w2 wr → Below w.heap.size w wr) := Lib.hid fun wr hs => by
  rw [HQ.out]; exact HB1.out.trans (hs.below (Nat.le_refl _) (Nat.le_of_lt HM1.out.lt))
 clear c0 f0 hbe HMade HBA
 go_wp2_with fail
 go_loopw [6] (fun i wr => ∃ r : Nat, r ≤ n ∧ i = .int .i64 r ∧ RchO G but w2 q n r wr) (fun i _ => n - (intOf i).toNat)
 case atStart => exact ⟨0, Nat.zero_le _, rfl, _, HS0.out, HM1.out, Save.refl _ _⟩
 case round =>
  obtain ⟨r, hr, rfl, S, hS, hrow, hsv⟩ := hrel
  have HSS := Lib.hid hS; have HRw := Lib.hid hrow; have HSv := Lib.hid hsv
  clear hS hrow hsv
  by_cases hlt : r < n
  rotate_left
  ·obtain rfl : r = n := by omega
   go_wp2_with fail
   go_ret
   refine ⟨⟨_, rfl, by rw [HQ.out]; exact Nat.le_refl _, ?_⟩, HW2.out _ HSv.out⟩
   rw [← HAll.out S HSS.out]; exact HRw.out
  have hri : (r : Int) < (n : Int) := by omega
  obtain ⟨wo, rfl⟩ : ∃ wo, wo = wr := ⟨_, rfl⟩
  go_wp2_with fail
  go_loopw [7] (fun i wr => ∃ b : Nat, b ≤ n ∧ i = .int .i64 b ∧ RchB G but S w2 q n b wr) (fun i _ => n - (intOf i).toNat)
  case atStart => exact ⟨0, Nat.zero_le _, rfl, S, HSS.out.round, HRw.out, HSv.out⟩
  case round =>
   obtain ⟨b, hbn, rfl, S1, hI1, hrow, hsv⟩ := hrel
   have HI1 := Lib.hid hI1; have HRw1 := Lib.hid hrow; have HSv1 := Lib.hid hsv
   clear hI1 hrow hsv
   obtain ⟨wb, rfl⟩ : ∃ wb, wb = wr := ⟨_, rfl⟩
   by_cases hlt2 : b < n
   rotate_left
   ·obtain rfl : b = n := by omega
    go_wp2_with fail
    go_roundw
    case rel => exact ⟨r + 1, by omega, by go_num, S1, HDone.out _ _ _ HSS.out HI1.out, HRw1.out, HSv1.out⟩
    case measure => simp [intOf]; omega
   have hbi : (b : Int) < (n : Int) := by omega
   have HMk := Lib.hid (fun S' i h1 h2 h3 h4 => HMark.out S S' b i h1 h2 h3 h4 hlt2)
   have HNx := Lib.hid (fun S' h1 h2 => HNext.out S S' b h1 h2 hlt2)
   have HRb := Lib.hid (fun x h => HR.out b x hlt2 h)
   have hm2 := HRow.out b hlt2
   have HGb : Hid (∀ wr, Save q w2 wr → ∃ b0 off a' cap', a = some ⟨b0, off, none⟩ ∧ wr.cell? ⟨b0, off + b, none⟩ = some (.slice a' (g.getD b []).length cap') ∧ IntsIn wr a' (g.getD b [])) := Lib.hid fun wr hs => HI.out.below (HW2.out wr hs) b (by rw [HNn.out]; exact hlt2)
   generalize g.getD b [] = row at *
   go_wp2_with fail
   go_loopw [8] (fun i wr => ∃ k : Nat, k ≤ row.length ∧ i = .int .i64 k ∧ RchI G but S w2 q n b row k wr) (fun i _ => row.length - (intOf i).toNat)
   case atStart => exact ⟨0, Nat.zero_le _, rfl, S1, HI1.out, fun _ h => absurd h (Nat.not_lt_zero _), HRw1.out, HSv1.out⟩
   case round =>
    obtain ⟨k, hk, rfl, S2, hI2, hdn, hrow, hsv⟩ := hrel
    have HI2 := Lib.hid hI2; have HDn := Lib.hid hdn; have HRw2 := Lib.hid hrow; have HSv2 := Lib.hid hsv
    obtain ⟨b0, off, a', cap', rfl, hc, hi'⟩ := HGb.out _ hsv
    have cb := hrow.cell (k := b) hlt2
    clear hI2 hdn hrow hsv
    generalize hml : row.length = m at *
    have HMl := Lib.hid hml; clear hml
    by_cases hkm : k < m
    rotate_left
    ·obtain rfl : k = m := by omega
     have HE := Lib.hid (HNx.out S2 HI2.out (fun _ i h1 h2 => HDn.out i h1 h2))
     clear cb hi'
     go_wp2_with fail
     go_roundw
     case rel => exact ⟨b + 1, by omega, by go_num, S2, HE.out, HRw2.out, HSv2.out⟩
     case measure => simp [intOf]; omega
    have hkmi : (k : Int) < (m : Int) := by omega
    cases hSb : S2 b
    ·have HE := Lib.hid (HNx.out S2 HI2.out (fun h => by rw [hSb] at h; cases h))
     rw [hSb] at cb
     clear hi' hSb
     go_wp2_with fail
     go_roundw
     case rel => exact ⟨b + 1, by omega, by go_num, S2, HE.out, HRw2.out, HSv2.out⟩
     case measure => simp [intOf]; omega
    have HMk2 := Lib.hid (fun h => HMk.out S2 k HI2.out hSb hkm h)
    rw [hSb] at cb
    obtain ⟨bx, ox, rfl, cx⟩ := hi' k (by rw [HMl.out]; exact hkm)
    have hxr := HRb.out (row.getD k 0) (getDm (by rw [HMl.out]; exact hkm))
    have HDk : Hid (∀ S3 : FL.NSet, (∀ j, S2 j = true → S3 j = true) → (row.getD k 0 ≠ but → S3 (row.getD k 0).toNat = true) → ∀ j, j < k + 1 → row.getD j 0 ≠ but → S3 (row.getD j 0).toNat = true) := Lib.hid fun S3 h1 h2 j hj hne => by
     by_cases e : j = k
     ·subst e; exact h2 hne
     ·exact h1 _ (HDn.out j (by omega) hne)
    clear hi' hSb
    generalize row.getD k 0 = x at *
    obtain ⟨xn, rfl⟩ : ∃ xn : Nat, x = (xn : Int) := ⟨x.toNat, by omega⟩
    rw [Int.toNat_natCast] at HMk2 HDk
    have hxl : (xn : Int) < (n : Int) := by omega
    have cy := HRw2.out.cell (k := xn) (by omega)
    have fy := HRw2.out.free xn
    by_cases hxb : (xn : Int) = but
    ·have hxe : ((xn : Int) != but) = false := by simp [hxb]
     have HD2 := Lib.hid (HDk.out S2 (fun _ h => h) (fun h => absurd hxb h))
     clear hxb cy fy
     go_wp2_with fail
     go_roundw
     case rel => exact ⟨k + 1, by omega, by go_num, S2, HI2.out, HD2.out, HRw2.out, HSv2.out⟩
     case measure => simp [intOf]; omega
    ·have hxe : ((xn : Int) != but) = true := bne_iff_ne.2 hxb
     have HD2 := Lib.hid (HDk.out (FL.mark S2 xn) (fun _ h => FL.mark_of h) (fun _ => FL.mark_self _ _))
     have HM2 := Lib.hid (HMk2.out hxb)
     clear hxb
     go_wp2_with fail
     go_roundw
     case rel => exact ⟨k + 1, by omega, by go_num, _, HM2.out, HD2.out, HRw2.out.mark xn, HSv2.out.trans (Save.set _ _ _ _)⟩
     case measure => simp [intOf]; omega
theorem rdominates_any (g : List (List Int)) (ga : Option Addr) (cap : Nat) (a b : Nat) (w : World) (hin : RowsIn w ga g) (ok : FL.OkG (FL.gN g)) (hr : ∀ k x, k < g.length → x ∈ g.getD k [] → 0 ≤ x ∧ x < g.length) (ha : a < g.length) (hb : b < g.length) :
  Calls Tryz.prog 138 #[.slice ga g.length cap, .int .i64 (a : Nat), .int .i64 (b : Nat)] w fun e w' => e = .returned (.bool (FL.domB (FL.gN g) a b)) ∧ Below w.heap.size w w' := by
 have HR := Lib.hid (rreached_any g ga cap (a : Nat) w hin ok hr (by omega))
 have HD : Hid (FL.domB (FL.gN g) a b = (decide (a = b) || !(FL.rs (FL.gN g) (a : Nat) 0 b))) := Lib.hid rfl
 generalize FL.rs (FL.gN g) (a : Nat) 0 = S at *
 generalize FL.domB (FL.gN g) a b = r at *
 have hbi : (b : Int) < (g.length : Int) := by omega
 clear hin ok hr
 by_cases hab : a = b
 ·subst hab
  obtain rfl : r = true := by rw [HD.out]; simp
  have e : ((a : Int) == (a : Int)) = true := by simp
  generalize g.length = n at *
  go_enter Tryz.func138, Tryz.ntmps138
  go_wp2_with fail
  go_ret
  exact ⟨rfl, Below.refl _ _⟩
 ·obtain rfl : r = !(S b) := by rw [HD.out]; simp [hab]
  have e : ((a : Int) == (b : Int)) = false := by simp; omega
  clear hab
  generalize g.length = n at *
  go_enter Tryz.func138, Tryz.ntmps138
  go_wp2_with fail
  refine HR.out.mono ?_; rintro e2 w2 ⟨⟨q, rfl, _, hrow⟩, hb2⟩
  have cb := hrow.cell (k := b) hb
  have HB := Lib.hid hb2
  clear hrow hb2
  go_wp2_with fail
  go_ret
  exact ⟨rfl, HB.out⟩
end Go.Proofs.YtbbbflnnbbaamaaGreatDoor.PK
