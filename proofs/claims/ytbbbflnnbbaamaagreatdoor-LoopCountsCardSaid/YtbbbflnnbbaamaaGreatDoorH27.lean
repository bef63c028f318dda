/- Packed of several texts. -/
import Derived.Test.YtbbbflnnbbaamaaGreatDoorH26
import Derived.Test.YtbbbflnnbbaamaaGreatDoorH18
import Derived.Deep.RegionHeld3
import Derived.Test.YtbbbflnnbbaamaaGreatDoorH13
namespace Go.Proofs.YtbbbflnnbbaamaaGreatDoor.PK
open Go.RowKit

theorem owns_apart {w : World} {B B' : Nat} {e e' : TypeId} {s s' n n' : Nat} {v v' : Value} {xs xs' : List Value} (h : w.ownsRow B e s v n xs) (h' : w.ownsRow B' e' s' v' n' xs') (hne : e ≠ e') : v.ownBlock = none ∨ v.ownBlock ≠ v'.ownBlock := by
 obtain ⟨_, ⟨rfl, _⟩ | ⟨g, cap, cur, rfl, _, hg, _⟩⟩ := h
 ·exact .inl rfl
 ·refine .inr fun e1 => ?_
  obtain ⟨_, ⟨rfl, _⟩ | ⟨g', cap', cur', rfl, _, hg', _⟩⟩ := h'
  ·cases e1
  ·simp only [Value.ownBlock, Option.some.injEq] at e1
   subst e1
   rw [hg] at hg'
   simp only [Option.some.injEq, Obj.cells.injEq] at hg'
   exact hne hg'.2.1
theorem val_one (y : Int) : ∀ u ∈ [Value.bool false, .int .i64 0, .int .u32 y], u.oneCell' = true := by simp [Value.oneCell']
theorem val_new (w : World) (y : Int) (T : TypeId) : ∀ j u, [Value.bool false, .int .i64 0, .int .u32 y][j]? = some u → (w.alloc (.cells #[.bool false, .int .i64 0, .int .u32 y] T)).cell? ((⟨w.heap.size, 0, none⟩ : Addr).add j) = some u := by
 intro j u hu
 have hadd : (⟨w.heap.size, 0, none⟩ : Addr).add j = ⟨w.heap.size, j, none⟩ := by unfold Addr.add; split <;> simp_all
 rw [hadd, World.cell?_alloc_at _ _ _ _ rfl]
 match j, hu with
 | 0, hu => simpa using hu
 | 1, hu => simpa using hu
 | 2, hu => simpa using hu
 | j + 3, hu => simp at hu
theorem int_new (w : World) (y : Int) (T : TypeId) : IntsIn (w.alloc (.cells #[.int .i64 y] T)) (some ⟨w.heap.size, 0, none⟩) [y] := fun k hk => by
 refine ⟨w.heap.size, 0, rfl, ?_⟩
 obtain rfl : k = 0 := by simp at hk; omega
 simp [go_sem]
theorem step_append_val {ops : Array Oper} {o : Oper} {a : Act} {w : World} {K : Act → World → Prop} {Q : Exit → Act → World → Prop} {E : Prop}
  (hg : o.guard = none) (s x : Operand) (hop : o.op = Op.call { callee := Callee.builtin Builtin.append, args := #[s, x], argTypes := #[72, 72] })
  (B : Nat) (v : Value) (L : List Int) (hs : a.eval s = v) (hown : w.ownsRow B 47 3 v L.length (encV L)) (ad : Addr) (y : Int) (hx : a.eval x = .slice (some ad) 1 1) (hnew : ∀ j u, [Value.bool false, .int .i64 0, .int .u32 y][j]? = some u → w.cell? (ad.add j) = some u) (hlen : L.length ≤ 1000000) (hbase : B ≤ w.heap.size)
  (hK : ∀ v' w', w'.ownsRow B 47 3 v' (L ++ [y]).length (encV (L ++ [y])) → w.grownBy w' v.ownBlock → K (a.put o.dst v') w') :
  if Region.wanted o (yielded ops a.tmps) = true then Oper.wp Tryz.prog o a w K Q else E := by
 obtain ⟨i0, hi, hz0, hz1, hz2⟩ := info_parts infoVal
 exact step_append_own hg s x 72 hop B 47 i0 _ 3 24 Tryz.underlying72 hi hz0 hz1 hz2 rfl (by decide) v L.length (encV L) hs hown ad 1 1 _ hx rfl hnew (val_one y) (by unfold maxLen; omega) (by omega) hbase fun v' w' h1 h2 => hK v' w' (by rw [encV_snoc, List.length_append]; exact h1) h2
theorem wTick_any (q : Nat) (s : Int) (w : World) (h0 : 0 ≤ s) (h1 : s < 400) (c13 : w.cell? ⟨q, 13, none⟩ = some (.int .i64 s)) (fz : w.frozen? ⟨q, 13, none⟩ = false) :
  Calls Tryz.prog 85 #[.pointer (some ⟨q, 0, none⟩)] w fun e w' => e = .returned (.bool true) ∧ w' = w.setCell ⟨q, 13, none⟩ (.int .i64 (s + 1)) := by
 have hq : (s == 400) = false := by simp; omega
 go_enter Tryz.func85, Tryz.ntmps85
 go_wp2_with fail
 go_ret
 exact ⟨rfl, by congr 2⟩
def argL (L : List Int) (l : List Int) : List Int := l.map fun a => L.getD a.toNat 0
theorem argL_snoc (L l : List Int) {k : Nat} (h : k < l.length) : argL L (l.take (k + 1)) = argL L (l.take k) ++ [L.getD (l.getD k 0).toNat 0] := by
 unfold argL
 rw [List.take_succ_eq_append_getElem h, List.map_append, List.getD_eq_getElem?_getD (l := l), List.getElem?_eq_getElem h]; rfl
theorem argL_len (L l : List Int) : (argL L l).length = l.length := by simp [argL]
set_option maxRecDepth 100000 in
set_option maxHeartbeats 2000000 in
theorem wArgs_any (F : Fun) (A : FunA) (q v : Nat) (L : List Int) (x : Ins) (aa ta : Option Addr) (ca ct : Nat) (w : World) (hin : FunIn w F A) (hs : FunSm F) (hN : L.length = (kdsI F).length) (hx : IntsIn w aa x.ar) (hxl : x.ar.length ≤ 40)
  (hr : ∀ k, k < x.ar.length → 0 ≤ x.ar.getD k 0 ∧ x.ar.getD k 0 < L.length) (hv : ValsIn w (some ⟨v, 0, none⟩) L)
  (g0 : w.cell? ⟨q, 0, none⟩ = some (.slice A.pa F.ps.length A.pc)) (g3 : w.cell? ⟨q, 3, none⟩ = some (.slice A.ba F.bs.length A.bc)) (g14 : w.cell? ⟨q, 14, none⟩ = some (.slice (some ⟨v, 0, none⟩) L.length L.length)) :
  Calls Tryz.prog 86 #[.pointer (some ⟨q, 0, none⟩), insV x aa ta ca ct] w fun e w' => ∃ la lc ka kc, e = .returned (.tuple #[.slice la x.ar.length lc, .slice ka x.ar.length kc]) ∧ ValsIn w' la (argL L x.ar) ∧ IntsIn w' ka (argL (kdsI F) x.ar) ∧ Below w.heap.size w w' := by
 have hal : Below w.heap.size w (w.alloc (.cells #[.int .i64 x.op, .int .i64 x.wd, .int .i64 x.fl, .slice aa x.ar.length ca, .int .u32 x.im, .slice ta x.tt.length ct] 63)) := (Below.refl _ _).alloc (Nat.le_refl _) _
 have hr0 : (w.alloc (.cells #[.int .i64 x.op, .int .i64 x.wd, .int .i64 x.fl, .slice aa x.ar.length ca, .int .u32 x.im, .slice ta x.tt.length ct] 63)).heap[w.heap.size]? = some (.cells #[.int .i64 x.op, .int .i64 x.wd, .int .i64 x.fl, .slice aa x.ar.length ca, .int .u32 x.im, .slice ta x.tt.length ct] 63 (0, 0)) := heap_alloc_new _ _
 have x3 := cell_of_row _ _ 3 _ _ _ hr0
 have HX3 := Lib.hid x3
 have HB0 := Lib.hid hal
 have HX := Lib.hid (hx.below hal); have HV := Lib.hid (hv.below hal)
 have HG14 := Lib.hid (keep g14 hal)
 have HKd := Lib.hid (fun a u (h : Below w.heap.size w u) ha => wKind_any F A q a u (hin.below h) hs ha (keep g0 h) (keep g3 h))
 have HR := Lib.hid hr
 have HSn := Lib.hid (fun k h => argL_snoc L x.ar (k := k) h)
 have HSk := Lib.hid (fun k h => argL_snoc (kdsI F) x.ar (k := k) h)
 have HLn := Lib.hid (fun k => argL_len L (x.ar.take k)); have HLk := Lib.hid (fun k => argL_len (kdsI F) (x.ar.take k))
 have hkb : L.length ≤ 1000000 := by
  rw [hN, kdsI_len]
  have := hs.sum F.bs.length (Nat.le_refl _)
  have := hs.ps
  omega
 rw [← hN] at HKd
 obtain ⟨i0, hi, hz0, hz1, hz2⟩ := info_parts Tryz.infoInt
 clear hin hs hal hr0 hx hr hv g0 g3 g14 hN
 simp only [insV]
 generalize hn : x.ar.length = n at *
 have HN := Lib.hid hn; clear hn
 go_enter Tryz.func86, Tryz.ntmps86
 go_upto_region 1 with fail
 generalize hw1 : (w.alloc _) = w1 at *
 clear hw1
 have HZ1 := Lib.hid HB0.out.size
 go_wp2_with fail
 clear x3
 go_loopw [8, 6, 7] (fun i lv kv wr => ∃ k : Nat, k ≤ n ∧ i = .int .i64 k ∧ wr.ownsRow w1.heap.size 47 3 lv (argL L (x.ar.take k)).length (encV (argL L (x.ar.take k))) ∧ wr.ownsRow w1.heap.size 3 1 kv (argL (kdsI F) (x.ar.take k)).length (encI (argL (kdsI F) (x.ar.take k))) ∧ Below w1.heap.size w1 wr) (fun i _ _ _ => n - (intOf i).toNat)
 case atStart => exact ⟨0, Nat.zero_le _, rfl, owns_nil _ _ _ _, owns_nil _ _ _ _, Below.refl _ _⟩
 case round =>
  obtain ⟨k, hk, rfl, hl, hkk, hb⟩ := hrel
  have HL := Lib.hid hl; have HK := Lib.hid hkk; have HB := Lib.hid hb
  have x3 := keep HX3.out hb
  by_cases hlt : k < n
  rotate_left
  ·obtain rfl : k = n := by omega
   have e1 : x.ar.take k = x.ar := List.take_of_length_le (by rw [HN.out]; exact Nat.le_refl _)
   rw [e1] at hl hkk
   obtain ⟨la, lc, rfl, hvl⟩ := vals_of_owns hl
   obtain ⟨ka, kc, rfl, _, hki⟩ := ints_of_owns hkk
   have l1 : (argL L x.ar).length = k := by rw [argL_len, HN.out]
   have l2 : (argL (kdsI F) x.ar).length = k := by rw [argL_len, HN.out]
   rw [l1, l2]
   have HVl := Lib.hid hvl; have HKi := Lib.hid hki
   clear hl hkk hvl hki hb HL HK
   go_wp2_with fail
   go_ret2
   exact ⟨la, lc, ka, kc, rfl, HVl.out, HKi.out, HB0.out.trans (HB.out.mono HZ1.out)⟩
  have hki : (k : Int) < (n : Int) := by omega
  obtain ⟨b, off, rfl, hc⟩ := HX.out k (by rw [HN.out]; exact hlt)
  obtain ⟨r0, r1⟩ := HR.out k hlt
  have HSn1 := Lib.hid (HSn.out k hlt); have HSk1 := Lib.hid (HSk.out k hlt)
  obtain ⟨z, hz⟩ : ∃ z : Nat, x.ar.getD k 0 = z := ⟨_, (Int.toNat_of_nonneg r0).symm⟩
  have hzt : (x.ar.getD k 0).toNat = z := by rw [hz]; rfl
  rw [hzt] at HSn1 HSk1
  rw [hz] at hc r1
  clear hz hzt r0
  have hzl : z < L.length := by omega
  have HVz : Hid (∀ u, Below w1.heap.size w1 u → u.cell? ⟨v, z * 3, none⟩ = some (.bool false) ∧ u.cell? ⟨v, z * 3 + 1, none⟩ = some (.int .i64 0) ∧ u.cell? ⟨v, z * 3 + 2, none⟩ = some (.int .u32 (L.getD z 0))) := Lib.hid fun u hu => by
   obtain ⟨vb, vo, hve, v0, v1, v2⟩ := (HV.out.below hu) z hzl
   simp only [Option.some.injEq, Addr.mk.injEq, and_true] at hve
   obtain ⟨rfl, rfl⟩ := hve
   rw [Nat.zero_add] at v0 v1 v2
   exact ⟨v0, v1, v2⟩
  have HC := Lib.hid hc
  have hc := keep hc hb
  have HKd1 := Lib.hid (HKd.out z wr (HB0.out.trans (hb.mono HZ1.out)) hzl)
  have hln := HLn.out k; have hlk := HLk.out k
  have hm1 : min k n = k := by omega
  rw [List.length_take, HN.out, hm1] at hln hlk
  have HLn1 := Lib.hid hln; have HLk1 := Lib.hid hlk
  generalize L.getD z 0 = y at *
  generalize (kdsI F).getD z 0 = t at *
  generalize argL L (x.ar.take k) = Lk at *
  generalize argL (kdsI F) (x.ar.take k) = Kk at *
  clear hl hkk hb hln hlk
  go_wp2_with fail
  refine HKd1.out.mono ?_; rintro e w3 ⟨rfl, rfl⟩
  have HK2 := Lib.hid (HK.out.alloc (.cells #[.int .i64 t] 3)); have HL2 := Lib.hid (HL.out.alloc (.cells #[.int .i64 t] 3))
  have HB2 := Lib.hid (HB.out.alloc HB.out.size (.cells #[.int .i64 t] 3))
  have HI2 := Lib.hid (int_new w3 t 3)
  have HSz : Hid (Kk.length + [t].length ≤ 1000000) := Lib.hid (by rw [HLk1.out]; simp; omega)
  have HZ2 := Lib.hid HB2.out.size
  clear x3 hc
  go_wp2_with (at_builtin; refine wpList_append_ints _ rfl _ _ rfl w1.heap.size _ Kk rfl HK2.out (some ⟨w3.heap.size, 0, none⟩) 1 [t] rfl HI2.out HSz.out HZ2.out ?_; intro kv6 w6 ho6 hg6; have HK6 := Lib.hid ho6; have HL6 := Lib.hid (HL2.out.kept hg6 (owns_apart HL2.out HK2.out (by decide))); have HB6 := Lib.hid (HB2.out.grown hg6 HZ2.out (fun g hg => (owns_block HK2.out hg).1)); have x3 := keep HX3.out HB6.out; have g14 := keep HG14.out HB6.out; have hc := keep HC.out (HB6.out); clear ho6 hg6)
  obtain ⟨v0, v1, v2⟩ := HVz.out w6 HB6.out
  have hzi : (z : Int) < (L.length : Int) := by omega
  have HS0 : Hid (∀ u, Below w1.heap.size w1 u → u.cell? ⟨w.heap.size, 3, none⟩ = some (.slice (some ⟨b, off, none⟩) n ca) ∧ u.cell? ⟨q, 14, none⟩ = some (.slice (some ⟨v, 0, none⟩) L.length L.length) ∧ u.cell? ⟨b, off + k, none⟩ = some (.int .i64 z) ∧ u.cell? ⟨v, z * 3, none⟩ = some (.bool false) ∧ u.cell? ⟨v, z * 3 + 1, none⟩ = some (.int .i64 0) ∧ u.cell? ⟨v, z * 3 + 2, none⟩ = some (.int .u32 y)) := Lib.hid fun u hu => ⟨keep HX3.out hu, keep HG14.out hu, keep HC.out hu, HVz.out u hu⟩
  have HL7 := Lib.hid (HL6.out.alloc (.cells #[.bool false, .int .i64 0, .int .u32 y] 47))
  have HK7 := Lib.hid (HK6.out.alloc (.cells #[.bool false, .int .i64 0, .int .u32 y] 47))
  have HB7 := Lib.hid (HB6.out.alloc HB6.out.size (.cells #[.bool false, .int .i64 0, .int .u32 y] 47))
  have HNw := Lib.hid (val_new w6 y 47)
  have HZ7 := Lib.hid HB7.out.size
  have HSl : Hid (Lk.length ≤ 1000000) := Lib.hid (by rw [HLn1.out]; omega)
  have hs6 := HS0.out w6 HB6.out
  clear x3 g14 hc v0 v1 v2
  go_wp2_with fail
  refine wp_region_held_drew (S := (fun w' => w'.cell? ⟨w.heap.size, 3, none⟩ = some (.slice (some ⟨b, off, none⟩) n ca) ∧ w'.cell? ⟨q, 14, none⟩ = some (.slice (some ⟨v, 0, none⟩) L.length L.length) ∧ w'.cell? ⟨b, off + k, none⟩ = some (.int .i64 z) ∧ w'.cell? ⟨v, z * 3, none⟩ = some (.bool false) ∧ w'.cell? ⟨v, z * 3 + 1, none⟩ = some (.int .i64 0) ∧ w'.cell? ⟨v, z * 3 + 2, none⟩ = some (.int .u32 y))) (by kernel_rfl) hs6 (fun hHeld => ?_)
  refine wpAnyH_take (i := 0) (v := ?v0) (by simp only [List.getElem?_toArray, List.getElem?_cons_zero]; rfl) (by kernel_rfl) (by kernel_rfl) (by kernel_rfl) (by exact fun _ _ _ h => h) (Or.inl ⟨by rfl, ?hy0⟩) (by assumption) ?_
  case hy0 => intro w hSw; (try dsimp only at hSw); go_simp; try with_reducible rfl
  try simp only [Act.put, List.setIfInBounds_toArray, List.set_cons_zero, List.set_cons_succ]
  refine wpAnyH_take (i := 1) (v := ?v1) (by simp only [List.getElem?_toArray, List.getElem?_cons_zero, List.getElem?_cons_succ]; rfl) (by kernel_rfl) (by kernel_rfl) (by kernel_rfl) (by exact fun _ _ _ h => h) (Or.inl ⟨by rfl, ?hy1⟩) (by assumption) ?_
  case hy1 => intro w hSw; (try dsimp only at hSw); go_simp; try with_reducible rfl
  try simp only [Act.put, List.setIfInBounds_toArray, List.set_cons_zero, List.set_cons_succ]
  refine wpAnyH_take (i := 2) (v := ?v2) (by simp only [List.getElem?_toArray, List.getElem?_cons_zero, List.getElem?_cons_succ]; rfl) (by kernel_rfl) (by kernel_rfl) (by kernel_rfl) (by exact fun _ _ _ h => h) (Or.inl ⟨by rfl, ?hy2⟩) (by assumption) ?_
  case hy2 => intro w hSw; (try dsimp only at hSw); go_simp; try with_reducible rfl
  try simp only [Act.put, List.setIfInBounds_toArray, List.set_cons_zero, List.set_cons_succ]
  refine wpAnyH_take (i := 3) (v := ?v3) (by simp only [List.getElem?_toArray, List.getElem?_cons_zero, List.getElem?_cons_succ]; rfl) (by kernel_rfl) (by kernel_rfl) (by kernel_rfl) (by exact fun _ _ _ h => h) (Or.inl ⟨by rfl, ?hy3⟩) (by assumption) ?_
  case hy3 => intro w hSw; (try dsimp only at hSw); go_simp; try with_reducible rfl
  try simp only [Act.put, List.setIfInBounds_toArray, List.set_cons_zero, List.set_cons_succ]
  refine wpAnyH_take (i := 4) (v := ?v4) (by simp only [List.getElem?_toArray, List.getElem?_cons_zero, List.getElem?_cons_succ]; rfl) (by kernel_rfl) (by kernel_rfl) (by kernel_rfl) (by exact fun _ _ _ h => h) (Or.inl ⟨by rfl, ?hy4⟩) (by assumption) ?_
  case hy4 => intro w hSw; (try dsimp only at hSw); go_simp; try with_reducible rfl
  try simp only [Act.put, List.setIfInBounds_toArray, List.set_cons_zero, List.set_cons_succ]
  refine wpAnyH_take (i := 5) (v := ?v5) (by simp only [List.getElem?_toArray, List.getElem?_cons_zero, List.getElem?_cons_succ]; rfl) (by kernel_rfl) (by kernel_rfl) (by kernel_rfl) (by exact fun _ _ _ h => h) (Or.inl ⟨by rfl, ?hy5⟩) (by assumption) ?_
  case hy5 => intro w hSw; (try dsimp only at hSw); go_simp; try with_reducible rfl
  try simp only [Act.put, List.setIfInBounds_toArray, List.set_cons_zero, List.set_cons_succ]
  refine wpAnyH_take (i := 6) (v := ?v6) (by simp only [List.getElem?_toArray, List.getElem?_cons_zero, List.getElem?_cons_succ]; rfl) (by kernel_rfl) (by kernel_rfl) (by kernel_rfl) (by exact fun _ _ _ h => h) (Or.inl ⟨by rfl, ?hy6⟩) (by assumption) ?_
  case hy6 => intro w hSw; (try dsimp only at hSw); go_simp; try with_reducible rfl
  try simp only [Act.put, List.setIfInBounds_toArray, List.set_cons_zero, List.set_cons_succ]
  refine wpAnyH_take (i := 7) (v := ?v7) (by simp only [List.getElem?_toArray, List.getElem?_cons_zero, List.getElem?_cons_succ]; rfl) (by kernel_rfl) (by kernel_rfl) (by kernel_rfl) (by exact fun _ _ _ h => h) (Or.inl ⟨by rfl, ?hy7⟩) (by assumption) ?_
  case hy7 => intro w hSw; (try dsimp only at hSw); go_simp; try with_reducible rfl
  try simp only [Act.put, List.setIfInBounds_toArray, List.set_cons_zero, List.set_cons_succ]
  refine wpAnyH_take (i := 8) (v := ?v8) (by simp only [List.getElem?_toArray, List.getElem?_cons_zero, List.getElem?_cons_succ]; rfl) (by kernel_rfl) (by kernel_rfl) (by kernel_rfl) (by exact fun _ _ _ h => h) (Or.inl ⟨by rfl, ?hy8⟩) (by assumption) ?_
  case hy8 => intro w hSw; (try dsimp only at hSw); go_simp; try with_reducible rfl
  try simp only [Act.put, List.setIfInBounds_toArray, List.set_cons_zero, List.set_cons_succ]
  refine wpAnyH_take (i := 9) (v := ?v9) (by simp only [List.getElem?_toArray, List.getElem?_cons_zero, List.getElem?_cons_succ]; rfl) (by kernel_rfl) (by kernel_rfl) (by kernel_rfl) (by exact fun _ _ _ h => h) (Or.inl ⟨by rfl, ?hy9⟩) (by assumption) ?_
  case hy9 => intro w hSw; (try dsimp only at hSw); go_simp; try with_reducible rfl
  try simp only [Act.put, List.setIfInBounds_toArray, List.set_cons_zero, List.set_cons_succ]
  refine wpAnyH_take (i := 10) (v := ?v10) (by simp only [List.getElem?_toArray, List.getElem?_cons_zero, List.getElem?_cons_succ]; rfl) (by kernel_rfl) (by kernel_rfl) (by kernel_rfl) (by exact fun _ _ _ h => h) (Or.inl ⟨by rfl, ?hy10⟩) (by assumption) ?_
  case hy10 => intro w hSw; (try dsimp only at hSw); go_simp; try with_reducible rfl
  try simp only [Act.put, List.setIfInBounds_toArray, List.set_cons_zero, List.set_cons_succ]
  refine wpAnyH_take (i := 11) (v := ?v11) (by simp only [List.getElem?_toArray, List.getElem?_cons_zero, List.getElem?_cons_succ]; rfl) (by kernel_rfl) (by kernel_rfl) (by kernel_rfl) (by exact fun _ _ _ h => h) (Or.inl ⟨by rfl, ?hy11⟩) (by assumption) ?_
  case hy11 => intro w hSw; (try dsimp only at hSw); go_simp; try with_reducible rfl
  try simp only [Act.put, List.setIfInBounds_toArray, List.set_cons_zero, List.set_cons_succ]
  refine wpAnyH_take (i := 12) (v := ?v12) (by simp only [List.getElem?_toArray, List.getElem?_cons_zero, List.getElem?_cons_succ]; rfl) (by kernel_rfl) (by kernel_rfl) (by kernel_rfl) (by exact fun _ _ _ h => h) (Or.inl ⟨by rfl, ?hy12⟩) (by assumption) ?_
  case hy12 => intro w hSw; (try dsimp only at hSw); go_simp; try with_reducible rfl
  try simp only [Act.put, List.setIfInBounds_toArray, List.set_cons_zero, List.set_cons_succ]
  refine wpAnyH_ready (rs := [13]) (by kernel_rfl) (by simp) ?_
  refine AllReadyH.cons (by simp only [List.getElem?_toArray, List.getElem?_cons_zero, List.getElem?_cons_succ]; rfl) (fun K hK => ?_) AllReadyH.nil
  go_simp
  refine hK.out _ _ (HS0.out _ (below_drew1 HB7.out)) (fun hHeld2 => ?_)
  clear hK K
  try simp only [Act.put, List.setIfInBounds_toArray, List.set_cons_zero, List.set_cons_succ]
  refine wpAnyH_ready (rs := [14]) (by kernel_rfl) (by simp) ?_
  refine AllReadyH.cons (by simp only [List.getElem?_toArray, List.getElem?_cons_zero, List.getElem?_cons_succ]; rfl) (fun K hK => ?_) AllReadyH.nil
  refine step_append_val rfl _ _ rfl w1.heap.size _ Lk rfl HL7.out ⟨w6.heap.size, 0, none⟩ y rfl HNw.out HSl.out HZ7.out ?_
  intro lv8 w8 ho8 hg8
  have hg8 : (w6.alloc (.cells #[.bool false, .int .i64 0, .int .u32 y] 47)).grownBy w8 _ := ⟨hg8.os, hg8.tape, hg8.output, hg8.size, hg8.block⟩
  have HL8 := Lib.hid ho8; have HK8 := Lib.hid (HK7.out.kept hg8 (owns_apart HK7.out HL7.out (by decide))); have HB8 := Lib.hid (HB7.out.grown hg8 HZ7.out (fun g hg => (owns_block HL7.out hg).1)); clear ho8 hg8
  try go_simp
  refine hK.out _ _ (HS0.out _ HB8.out) (fun hHeld3 => ?_)
  clear hK K
  try simp only [Act.put, List.setIfInBounds_toArray, List.set_cons_zero, List.set_cons_succ]
  refine wpAnyH_ready (rs := [15]) (by kernel_rfl) (by simp) ?_
  refine AllReadyH.cons (by simp only [List.getElem?_toArray, List.getElem?_cons_zero, List.getElem?_cons_succ]; rfl) (fun K hK => ?_) AllReadyH.nil
  go_simp
  refine hK.out _ _ (HS0.out _ HB8.out) (fun hHeld4 => ?_)
  clear hK K
  try simp only [Act.put, List.setIfInBounds_toArray, List.set_cons_zero, List.set_cons_succ]
  refine wpAnyH_done (by kernel_rfl) ?_ _
  go_wp2_with fail
  go_roundw
  case rel => exact ⟨k + 1, by omega, by go_num, by rw [HSn1.out]; exact HL8.out, by rw [HSk1.out]; exact HK8.out, HB8.out⟩
  case measure => simp [intOf]; omega
end Go.Proofs.YtbbbflnnbbaamaaGreatDoor.PK
namespace Go.Proofs.YtbbbflnnbbaamaaGreatDoor.PK
open Go.RowKit Go.Shelf

def postT (r : Nat) (v : Value) (p : Prop) (W : World) : Exit → Act → World → Prop
 | .normal, _, W' => Below W.heap.size W W' ∧ p
 | .ret, _, W' => (∃ W'', Below W.heap.size W W'' ∧ W' = W''.setCell ⟨r, 0, none⟩ v) ∧ ¬ p
 | _, _, _ => False
theorem keeps_below {B : Nat} {W W' : World} (h : Below W.heap.size W W') : KeepsFrom B W W' := ⟨h.size, fun k _ _ hk _ => (h.block k (lt_of_block hk)).trans hk⟩
theorem range_test {g : Operand} {p s : Tmp} {assign body : Code} {Q : Exit → Act → World → Prop} {a : Act} {w : World} (F : Fun) (A : FunA) (E : Nat → Nat → InsA) (Bs r q : Nat) (v v0 : Value) (tr : TypeId) (P : Nat → Prop)
  (hg : a.eval g = .func (.func 102) #[] #[.pointer (some ⟨Bs, 0, none⟩)]) (hbl : F.bs.length ≤ 1000) (hbn : ∀ k, k < F.bs.length → (atBk F.bs k).length ≤ 1000) (hpl : F.ps.length ≤ 1000)
  (hE : BksIn w A.ba F.bs E) (hBs : Bs < w.heap.size) (hB0 : w.cell? ⟨Bs, 0, none⟩ = some (.slice A.pa F.ps.length A.pc)) (hB3 : w.cell? ⟨Bs, 3, none⟩ = some (.slice A.ba F.bs.length A.bc))
  (hr : w.heap[r]? = some (.cells #[v0] tr (0, 0))) (hq : q ≤ r)
  (hass : ∀ (l k : Nat) (W : World) (K : Act → World → Prop), K { tmps := (a.tmps.setIfInBounds p (encX F E k)).setIfInBounds s (.pointer (some ⟨W.heap.size, 0, none⟩)), defers := [] }
    (W.alloc (.cells #[.int .i64 (xI F k).op, .int .i64 (xI F k).wd, .int .i64 (xI F k).fl, .slice (eI F E k).aa (xI F k).ar.length (eI F E k).ca, .int .u32 (xI F k).im, .slice (eI F E k).ta (xI F k).tt.length (eI F E k).ct, .int .i64 ((F.ps.length : Int) + k), .int .i64 (locI F.bs k).1, .int .i64 (locI F.bs k).2] 119)) →
   assign.wpIn (Fence.wide.inRound l) 1 Tryz.prog (Exit.then K (fun _ _ _ => False)) { tmps := a.tmps.setIfInBounds p (encX F E k), defers := [] } W)
  (hbody : ∀ (l k : Nat) (W : World) (Bx : Nat), Below w.heap.size w W → (∀ j, j < k → P j) → k < sumI F.bs F.bs.length → w.heap.size ≤ Bx → XAt W Bx (xI F k) (eI F E k) ((F.ps.length : Int) + k) (locI F.bs k).1 (locI F.bs k).2 →
   body.wpIn (Fence.wide.inRound l) 1 Tryz.prog (postT r v (P k) W) { tmps := (a.tmps.setIfInBounds p (encX F E k)).setIfInBounds s (.pointer (some ⟨Bx, 0, none⟩)), defers := [] } W)
  (hdone : ∀ (D : Nat) (W : World), w.heap.size ≤ D → Below w.heap.size w W → (∀ k, k < sumI F.bs F.bs.length → P k) → W.heap[D]? = some (.deferred (some [])) → Q .normal { a with defers := { target := .collected D, args := #[] } :: a.defers } W)
  (hstop : ∀ (D k : Nat) (W : World), w.heap.size ≤ D → k < sumI F.bs F.bs.length → ¬ P k → Below q w W → W.cell? ⟨r, 0, none⟩ = some v → W.heap[D]? = some (.deferred (some [])) → Code.ret.wpIn Fence.wide 3 Tryz.prog Q { a with defers := { target := .collected D, args := #[] } :: a.defers } W) :
  (Code.rangeFunc g #[p] assign body).wpIn Fence.wide 3 Tryz.prog Q a w := by
 have hrl := lt_of_block hr
 have hqw : q ≤ w.heap.size := by omega
 refine range_all F A E Bs hg hbl hbn hpl w (Below.refl _ _) hE hBs hB0 hB3 (fun k W => Below w.heap.size w W ∧ ∀ j, j < k → P j) (fun c _ W => c = .ret ∧ (∃ j, j < sumI F.bs F.bs.length ∧ ¬ P j) ∧ Below q w W ∧ W.cell? ⟨r, 0, none⟩ = some v)
  (fun k A' A'' ht h => ⟨ht.below h.1 (Nat.le_refl _) h.1.size, h.2⟩) (fun c k A' A'' ht h => ⟨h.1, h.2.1, ht.below h.2.2.1 hqw (Nat.le_trans hqw h.2.2.1.size), ht.cell h.2.2.2⟩) ⟨Below.refl _ _, fun j hj => absurd hj (Nat.not_lt_zero _)⟩ (fun k W h => h.1.size) hass ?_ ?_ ?_
 ·intro l k W Bx hl hI hk hBx hx
  refine wpIn_mono (hbody l k W Bx hI.1 hI.2 hk hBx hx) ?_
  intro e a3 W3 hp
  match e, hp with
  | .normal, ⟨h1, h2⟩ =>
   refine ⟨keeps_below h1, Kp.of_below h1 hI.1.size (Nat.lt_of_lt_of_le hBs hI.1.size), hI.1.trans (h1.mono hI.1.size), fun j hj => ?_⟩
   by_cases e : j = k
   ·subst e; exact h2
   ·exact hI.2 j (by omega)
  | .ret, ⟨⟨W'', h1, h2⟩, h3⟩ =>
   subst h2
   have hb := hI.1.trans (h1.mono hI.1.size)
   have hr2 := (hb.block _ hrl).trans hr
   refine ⟨(keeps_below h1).trans ((KeepsOthers.setCell _ _ _).from _), rfl, ⟨k, hk, h3⟩, (hb.mono hqw).setCell hq v, ?_⟩
   exact cell_of_row _ _ 0 _ _ _ (heap_setCell_same W'' r 0 _ _ v hr2)
 ·intro D W hD hI hK
  exact hdone D W hD hI.1 hI.2 hK
 ·intro D c k W hD _ hI hK
  obtain ⟨rfl, ⟨j, hj, hp⟩, h1, h2⟩ := hI
  exact hstop D j W hD hj hp h1 h2 hK
theorem results_cell_bool {fn : Func} {p : Tmp} (h : fn.results = #[.cell p 4]) (tmps : Array Value) (w : World) (g : Nat) (b : Bool)
  (hp : tmps.getD p undef = .pointer (some ⟨g, 0, none⟩)) (hc : w.cell? ⟨g, 0, none⟩ = some (.bool b)) : (results fn tmps).run Tryz.prog w = .ok (.bool b) w := by
 have hp' : tmps[p]?.getD undef = .pointer (some ⟨g, 0, none⟩) := by simpa using hp
 simp [results, h, hp', asAddr, loadVar, hc, go_sem]
theorem cell_put {W : World} {D g k : Nat} {v : Value} (o : Obj) (hK : W.heap[D]? = some (.deferred (some []))) (hc : W.cell? ⟨g, k, none⟩ = some v) : (W.putObj D o).cell? ⟨g, k, none⟩ = some v := by
 have hne : g ≠ D := fun e => by
  subst e
  unfold World.cell? at hc
  simp [hK] at hc
 rw [World.cell?_of_block (w := W) (World.putObj_heap_other hne)]; exact hc
theorem leave_bool {fn : Func} {tmps : Array Value} {R : Ending → World → Prop} {D g : Nat} {p : Tmp} {b : Bool} {W : World} (base : World) (h : fn.results = #[.cell p 4]) (hp : tmps.getD p undef = .pointer (some ⟨g, 0, none⟩)) (hK : W.heap[D]? = some (.deferred (some [])))
  (hc : W.cell? ⟨g, 0, none⟩ = some (.bool b)) (hb : Below base.heap.size base W) (hD : base.heap.size ≤ D) (hR : ∀ W', Below base.heap.size base W' → R (.returned (.bool b)) W') : LeavesInM Fence.wide 3 Tryz.prog fn tmps R [{ target := .collected D, args := #[] }] .returning W :=
 ⟨by simp, .inl ⟨_, _, rfl, run_takeDeferred hK, ⟨_, results_cell_bool h tmps _ g b hp (cell_put _ hK hc), hR _ (hb.trans (belowK_b (w := base) (Nat.le_refl _) W D _ _ hD hK rfl rfl))⟩⟩⟩
end Go.Proofs.YtbbbflnnbbaamaaGreatDoor.PK
