/- The maps of registers; the walk of keys. -/
import Derived.Test.YtjfpaelmcepidaaD
import Derived.Sort.OwnSortedInts
namespace Go.Proofs.Ytjfpaelmcepidaa
open Go.RowKit Go.Maps Go.Sort

def encI (xs : List Int) : List Value := xs.map (Value.int .i64)
theorem encI_snoc (xs : List Int) (x : Int) : encI (xs ++ [x]) = encI xs ++ [.int .i64 x] := by simp [encI]
def ints (xs : List Nat) : List Int := xs.map fun (x : Nat) => (x : Int)
theorem ints_len (xs : List Nat) : (ints xs).length = xs.length := by simp [ints]
theorem encI_ints (xs : List Nat) : encI (ints xs) = encN xs := by simp [encI, ints, encN]
theorem rowAt_form {w : World} {base n : Nat} {e : TypeId} {size : Nat} {v : Value} {xs : List Value} (h : w.ownsRow base e size v n xs) : ∃ a cap, v = .slice a n cap := by
  obtain ⟨_, h | ⟨g, cap, cur, rfl, _⟩⟩ := h
  · obtain ⟨rfl, rfl⟩ := h
    exact ⟨none, 0, rfl⟩
  · exact ⟨_, cap, rfl⟩
theorem sort_any {w : World} {base : Nat} {e : TypeId} {v : Value} (zs : List Int) (h : w.ownsRow base e 1 v zs.length (encI zs)) (hl : zs.length ≤ 1000) :
    Calls Try.prog 38 #[v] w fun e' w' => e' = .returned (.tuple #[]) ∧ w'.ownsRow base e 1 v zs.length (encI (zs.mergeSort fun x y => decide (x ≤ y))) ∧ w.grownBy w' v.ownBlock := by
  rcases h.2 with ⟨rfl, h0⟩ | ⟨g, cap, cur, rfl, hbase, hb, h1, h2, h3, h4⟩
  · have hz : zs = [] := List.length_eq_zero_iff.1 h0
    subst hz
    refine (Try.slices_Sort_int_none none 0 w).mono ?_
    rintro e' w' ⟨rfl, rfl⟩
    exact ⟨rfl, by simpa [encI] using h, ⟨rfl, rfl, rfl, Nat.le_refl _, fun _ _ _ => rfl⟩⟩
  · have hg : g < w.heap.size := (Array.getElem?_eq_some_iff.1 hb).1
    refine (Try.slices_Sort_int g 0 cap zs w (holds_of_blockI hb (by rw [Nat.mul_one] at h4; exact h4)) hg (by omega)).mono ?_
    rintro e' w' ⟨rfl, n, os, rfl⟩
    exact ⟨rfl, ownsRow_sortedI (by simp) hbase hb h1 h2 h3, grownBy_sortedI _⟩

theorem intLaw : Keyed Try.prog 3 := int_keyed Try.underlying3
theorem zeroInt (w : World) : (zeroValue 3).run Try.prog w = .ok (.int .i64 0) w := by kernel_rfl
theorem wf_nat {k : Nat} (h : k < 1000) : (Lit.int .i64 (k : Int)).wf = true := WalkArith.wf_i64 (by omega)
theorem key_nat {k : Nat} (h : k < 1000) : keyOf Try.prog 3 (.int .i64 (k : Int)) = some (.int .i64 (k : Int)) := keyOf_int_mk Try.underlying3 (wf_nat h)
/-- What a map of registers reads as. -/
structure MF (D : DataW Unit) (f : PF) : Prop where
  tidy : Tidy D
  has : ∀ x : Int, Maps.has D (.int .i64 x) = true ↔ ∃ k y : Nat, x = (k : Int) ∧ f k = some y
  val : ∀ k y : Nat, f k = some y → ∀ z, D.atKey (.int .i64 (k : Int)) z = .lit (.int .i64 (y : Int))
  size : Maps.size D = (keysL f).length
  lt : ∀ k y, f k = some y → k < 31 ∧ y < 32
theorem MF.empty : MF (.map []) (fun _ => none) := by
  refine ⟨tidy_empty, fun x => ?_, fun k y h => (by cases h), (by show 0 = (List.filter (fun k => false) (List.range 31)).length; rw [List.filter_eq_nil_iff.2 (by simp)]; rfl), fun k y h => (by cases h)⟩
  constructor
  · intro h; cases h
  · rintro ⟨k, y, _, h⟩; cases h
theorem ikl (x : Int) : WideAt.IsKeyLit (.int .i64 x) := trivial
theorem lit_ne {a b : Int} (h : a ≠ b) : (Lit.int .i64 a) ≠ (Lit.int .i64 b) := fun e => h (by simpa using e)
theorem keysL_put {f : PF} {k y : Nat} (hk : k < 31) : (keysL (put f k y)).length = if (f k).isSome then (keysL f).length else (keysL f).length + 1 := by
  split
  · rename_i h
    refine nodup_len (keysL_nodup _) (keysL_nodup _) fun j => ?_
    rw [keysL_mem, keysL_mem]
    by_cases c : j = k
    · subst c; rw [put_at]; simp [h]
    · rw [put_ne c]
  · rename_i h
    have h1 : (keysL (put f k y)).length = (k :: keysL f).length := nodup_len (keysL_nodup _) (List.nodup_cons.2 ⟨fun c => h (keysL_mem.1 c).2, keysL_nodup _⟩) fun j => by
      rw [List.mem_cons, keysL_mem, keysL_mem]
      by_cases c : j = k
      · subst c; rw [put_at]; simp [hk]
      · rw [put_ne c]; simp [c]
    simpa using h1
theorem MF.put {D : DataW Unit} {f : PF} (h : MF D f) {k y : Nat} (hk : k < 31) (hy : y < 32) : MF (D.put (.int .i64 (k : Int)) (.lit (.int .i64 (y : Int)))) (Proofs.Ytjfpaelmcepidaa.put f k y) := by
  have hbool : Maps.has D (.int .i64 (k : Int)) = (f k).isSome := by
    rw [Bool.eq_iff_iff, h.has]
    constructor
    · rintro ⟨k', y', e, h'⟩
      obtain rfl : k = k' := by omega
      rw [h']; rfl
    · intro hs
      obtain ⟨y', h'⟩ := Option.isSome_iff_exists.1 hs
      exact ⟨k, y', rfl, h'⟩
  refine ⟨h.tidy.put (ikl _) _, fun x => ?_, fun j z hz => ?_, ?_, fun j z hz => ?_⟩
  · by_cases c : x = (k : Int)
    · subst c
      rw [has_put_same h.tidy.isMap (ikl _)]
      simp only [true_iff]
      exact ⟨k, y, rfl, put_at _ _ _⟩
    · rw [has_put_other (lit_ne c), h.has]
      constructor
      · rintro ⟨j, z, rfl, hz⟩
        exact ⟨j, z, rfl, by rw [put_ne (by omega)]; exact hz⟩
      · rintro ⟨j, z, rfl, hz⟩
        exact ⟨j, z, rfl, by rwa [put_ne (by omega)] at hz⟩
  · by_cases c : j = k
    · subst c
      rw [put_at] at hz
      obtain rfl : y = z := by simpa using hz
      intro z'
      exact atKey_put_same h.tidy.isMap (ikl _) _ _
    · rw [put_ne c] at hz
      intro z'
      rw [atKey_put_other (lit_ne (by omega))]
      exact h.val j z hz z'
  · rw [size_put h.tidy, hbool, keysL_put hk, h.size]
  · by_cases c : j = k
    · subst c
      rw [put_at] at hz
      obtain rfl : y = z := by simpa using hz
      exact ⟨hk, hy⟩
    · rw [put_ne c] at hz
      exact h.lt j z hz
theorem MF.del {D : DataW Unit} {f : PF} (h : MF D f) {k : Nat} (hk : (f k).isSome = true) : MF (D.del (.int .i64 (k : Int))) (Proofs.Ytjfpaelmcepidaa.del f k) := by
  obtain ⟨y, hy⟩ := Option.isSome_iff_exists.1 hk
  have hkm : k ∈ keysL f := keysL_mem.2 ⟨(h.lt k y hy).1, hk⟩
  refine ⟨h.tidy.del _, fun x => ?_, fun j z hz => ?_, ?_, fun j z hz => ?_⟩
  · by_cases c : x = (k : Int)
    · subst c
      rw [has_del_same]
      constructor
      · intro h; cases h
      · rintro ⟨j, z, e, hz⟩
        obtain rfl : k = j := by omega
        rw [del_at] at hz; cases hz
    · rw [has_del_other (lit_ne c), h.has]
      constructor
      · rintro ⟨j, z, rfl, hz⟩
        exact ⟨j, z, rfl, by rw [del_ne (by omega)]; exact hz⟩
      · rintro ⟨j, z, rfl, hz⟩
        exact ⟨j, z, rfl, (del_some hz).2⟩
  · obtain ⟨c, hz'⟩ := del_some hz
    intro z'
    rw [atKey_del_other (lit_ne (by omega))]
    exact h.val j z hz' z'
  · have h1 := size_del (k := .int .i64 (k : Int)) h.tidy
    rw [(h.has _).2 ⟨k, y, rfl, hy⟩] at h1
    have h2 := keysL_del hkm
    have h3 := h.size
    rw [if_pos rfl] at h1
    omega
  · exact h.lt j z (del_some hz).2
theorem MF.at_int {D : DataW Unit} {f : PF} (h : MF D f) {x : Int} {c : Int} (hat : ∀ z, D.atKey (.int .i64 x) z = .lit (.int .i64 c)) : ∃ k y : Nat, x = (k : Int) ∧ c = (y : Int) ∧ f k = some y := by
  have hh : Maps.has D (.int .i64 x) = true := has_true_of_atKey hat
  obtain ⟨k, y, rfl, hy⟩ := (h.has x).1 hh
  have h1 := h.val k y hy .nil
  rw [hat] at h1
  exact ⟨k, y, rfl, by simpa using h1, hy⟩
abbrev OwnM (w : World) (b n : Nat) (D : DataW Unit) : Prop := w.ownsMap Try.prog 3 (plainElem Try.prog 3) b n D

/-- What has been collected of the keys. -/
structure Coll (f : PF) (left : Lit → Bool) (cnt : Nat) (zs : List Int) : Prop where
  nodup : zs.Nodup
  mem : ∀ x : Int, x ∈ zs ↔ (∃ k y : Nat, x = (k : Int) ∧ f k = some y) ∧ left (.int .i64 x) = false
  len : zs.length + cnt ≤ (keysL f).length
theorem Coll.start {D : DataW Unit} {f : PF} (h : MF D f) : Coll f (Maps.has D) (Maps.size D) [] := by
  refine ⟨List.nodup_nil, fun x => ?_, by rw [h.size]; simp⟩
  constructor
  · intro c; cases c
  · rintro ⟨h1, h2⟩
    rw [(h.has x).2 h1] at h2; cases h2
theorem Coll.step {D : DataW Unit} {f : PF} {left : Lit → Bool} {cnt cnt' : Nat} {zs : List Int} {x c : Int} (hm : MF D f) (h : Coll f left cnt zs) (hl : left (.int .i64 x) = true) (hat : ∀ z, D.atKey (.int .i64 x) z = .lit (.int .i64 c)) (hlt : cnt' < cnt) :
    Coll f (fun z => left z && !z.sameKey (.int .i64 x)) cnt' (zs ++ [x]) := by
  refine ⟨?_, fun y => ?_, by have := h.len; simp; omega⟩
  · rw [List.nodup_append]
    refine ⟨h.nodup, by simp, fun a ha b hb => ?_⟩
    obtain rfl : b = x := by simpa using hb
    intro e
    subst e
    have := ((h.mem a).1 ha).2
    rw [hl] at this; cases this
  · rw [List.mem_append, List.mem_singleton, h.mem]
    have hs : (Lit.int .i64 y).sameKey (.int .i64 x) = true ↔ y = x := by
      rw [WideAt.sameKey_iff (by trivial)]
      simp
    constructor
    · rintro (⟨h1, h2⟩ | rfl)
      · refine ⟨h1, ?_⟩
        show (left _ && _) = false
        rw [h2]; rfl
      · obtain ⟨k, z, e, _, hz⟩ := hm.at_int hat
        refine ⟨⟨k, z, e, hz⟩, ?_⟩
        show (left _ && !_) = false
        rw [hs.2 rfl]; simp
    · rintro ⟨h1, h2⟩
      have h2' : (left (.int .i64 y) && !(Lit.int .i64 y).sameKey (.int .i64 x)) = false := h2
      cases hly : left (.int .i64 y)
      · exact .inl ⟨h1, rfl⟩
      · rw [hly, Bool.true_and, Bool.not_eq_false'] at h2'
        exact .inr (hs.1 h2')
theorem Coll.fin {f : PF} {left : Lit → Bool} {cnt : Nat} {zs : List Int} {D : DataW Unit} (hm : MF D f) (h : Coll f left cnt zs) (hl : ∀ kl, left kl = false) : zs.mergeSort (fun x y => decide (x ≤ y)) = ints (keysL f) ∧ zs.length = (keysL f).length := by
  have hp : (zs.mergeSort fun x y => decide (x ≤ y)).Perm (ints (keysL f)) := by
    refine (List.mergeSort_perm _ _).trans ?_
    refine (List.perm_ext_iff_of_nodup h.nodup ?_).2 fun x => ?_
    · unfold ints List.Nodup
      rw [List.pairwise_map]
      exact (keysL_nodup f).imp fun h e => h (by omega)
    · rw [h.mem]
      unfold ints
      rw [List.mem_map]
      constructor
      · rintro ⟨⟨k, y, rfl, hy⟩, _⟩
        exact ⟨k, keysL_mem.2 ⟨(hm.lt k y hy).1, by rw [hy]; rfl⟩, rfl⟩
      · rintro ⟨k, hk, rfl⟩
        obtain ⟨y, hy⟩ := Option.isSome_iff_exists.1 (keysL_mem.1 hk).2
        exact ⟨⟨k, y, rfl, hy⟩, hl _⟩
  refine ⟨List.Perm.eq_of_pairwise (le := fun x y : Int => x ≤ y) (fun a b _ _ h1 h2 => by omega) ?_ ?_ hp, ?_⟩
  · have := List.pairwise_mergeSort (le := fun x y : Int => decide (x ≤ y)) (fun a b c h1 h2 => by simp only [decide_eq_true_eq] at *; omega) (fun a b => by simp only [Bool.or_eq_true, decide_eq_true_eq]; omega) zs
    exact this.imp fun h => by simpa using h
  · unfold ints
    rw [List.pairwise_map]
    exact (keysL_sorted f).imp fun h => by omega
  · have := hp.length_eq
    rwa [List.length_mergeSort, ints_len] at this

set_option maxRecDepth 100000 in
set_option maxHeartbeats 1000000 in
theorem keys_any (b n : Nat) (D : DataW Unit) (f : PF) (w : World) (hown : OwnM w b n D) (hm : MF D f) (hn : (keysL f).length ≤ 31) :
    Calls Try.prog 82 #[.map (some b)] w fun e w' => ∃ v, e = .returned v ∧ NatSl w' v (keysL f) ∧ Below w.heap.size w w' := by
  obtain ⟨i0, hi, hz0, hz1, hz2⟩ := info_parts Try.infoInt
  have HM := Lib.hid hm; have HOwn := Lib.hid hown
  have hbw := hown.lt
  clear hown hm
  go_enter Try.func82, Try.ntmps82
  go_wp2_with (first | (at_range; refine wpList_range_own _ rfl _ 56 rfl 3 3 intLaw Try.underlying56 _ b n _ rfl HOwn.out ?_; intro w0 hrg0 hg0 hs0))
  go_frame
  have HC0 := Lib.hid (Coll.start HM.out)
  have hb0 : Below w.heap.size w w0 := ⟨hg0.os, hg0.tape, hg0.output, hg0.size, fun k hk => hg0.block k hk (by simp)⟩
  have HB0 := Lib.hid hb0; have HG0 := Lib.hid hrg0
  clear hrg0 hg0 hb0
  go_loopw [3] (fun v wr => ∃ (left : Lit → Bool) (cnt : Nat) (zs : List Int), wr.ranges Try.prog 3 (plainElem Try.prog 3) b w.heap.size n D left cnt ∧ Coll f left cnt zs ∧ wr.ownsRow w0.heap.size 3 1 v zs.length (encI zs) ∧ Below w.heap.size w wr ∧ w0.heap.size ≤ wr.heap.size)
    (fun _ wr => wr.rangeLeft b w.heap.size)
  case atStart => exact ⟨_, _, [], HG0.out, HC0.out, World.ownsRow_nil _ _ _ _, HB0.out, Nat.le_refl _⟩
  case round =>
    obtain ⟨left, cnt, zs, hrg, hcoll, hown, hb, hsz⟩ := hrel
    have HColl := Lib.hid hcoll; have HOw := Lib.hid hown; have HB := Lib.hid hb; have HSz := Lib.hid hsz; have HRg := Lib.hid hrg
    have hlen := hcoll.len
    clear hcoll hown hb hsz hrg
    go_wp2_with (first | (at_next; refine wpList_next_ranges_ii _ rfl _ rfl 3 3 .i64 .i64 intLaw Try.underlying3 Try.underlying3 b w.heap.size n _ _ _ rfl HRg.out ?_ ?_))
    · intro _ hl0
      obtain ⟨h1, h2⟩ := HColl.out.fin HM.out hl0
      have HS := Lib.hid (sort_any zs HOw.out (by omega))
      have HFin := Lib.hid h1; have HLen := Lib.hid h2
      clear h1 h2
      go_wp2_with fail
      refine HS.out.mono ?_; rintro e w2 ⟨rfl, ho2, hg2⟩
      have HO2 := Lib.hid ho2
      have HB2 : Hid (Below w.heap.size w w2) := Lib.hid (HB.out.grown hg2 HB.out.size (fun k hk => by have := (HOw.out.lt k hk).1; have := HB0.out.size; omega))
      clear ho2 hg2
      go_wp2_with fail
      go_ret
      refine ⟨_, rfl, ?_, HB2.out⟩
      have := HO2.out
      rw [HFin.out, HLen.out, encI_ints] at this
      exact natSl_of_owns this
    · intro x c w1 cnt1 hwx hwc hlx hat hrg1 hlt hg1 hs1 hen
      have HC1 := Lib.hid (HColl.out.step HM.out hlx hat hlt)
      have hkx := HM.out.at_int hat
      obtain ⟨a0, c0, rfl⟩ := rowAt_form HOw.out
      have hw0 : w0.heap.size ≤ w1.heap.size := by have := HSz.out; omega
      have ho1 : w1.ownsRow w0.heap.size 3 1 (.slice a0 zs.length c0) zs.length (encI zs) := HOw.out.kept hg1 (by
        cases h : (Value.slice a0 zs.length c0).ownBlock with
        | none => exact .inl rfl
        | some g => exact .inr (fun e => by have := (HOw.out.lt g h).1; have : w.heap.size < w0.heap.size := HG0.out.lt; simp only [Option.some.injEq] at e; omega))
      have HO1 := Lib.hid ho1; have HR1 := Lib.hid hrg1
      have HB1 : Hid (Below w.heap.size w w1) := Lib.hid (HB.out.grown hg1 HB.out.size (fun k hk => by simp only [Option.some.injEq] at hk; omega))
      clear ho1 hat hwx hwc hlx hrg1 hg1 hkx hs1
      go_wp2_with (at_builtin; refine wpList_append_own _ rfl _ _ 43 rfl w0.heap.size 3 i0 (.int .i64 0) 1 8 Try.underlying43 hi hz0 hz1 hz2 rfl (by decide) _ _ _ rfl (HO1.out.alloc _) ⟨w1.heap.size, 0, none⟩ 1 1 [.int .i64 x] rfl rfl (cell_one_new _ _ _) one_int (by unfold maxLen; omega) (by omega) (by simp; omega) ?_; intro v' w2 hown2 hgrow _)
      have HO2 := Lib.hid hown2
      have hrg2 := (HR1.out.alloc (.cells #[.int .i64 x] 3)).kept hgrow (by
        intro e
        have := (HO1.out.lt _ e.symm).1
        have : w.heap.size < w0.heap.size := HG0.out.lt
        omega) (by
        intro e
        have := (HO1.out.lt _ e.symm).1
        have : w.heap.size < w0.heap.size := HG0.out.lt
        omega)
      have HR2 := Lib.hid hrg2
      have HB2 : Hid (Below w.heap.size w w2) := Lib.hid ((HB1.out.alloc HB1.out.size _).grown hgrow (by have := HB1.out.size; simp; omega) (fun k hk => by have := (HO1.out.lt k hk).1; have := HB0.out.size; omega))
      have HZ2 : Hid (w0.heap.size ≤ w2.heap.size) := Lib.hid (by have := hgrow.size; simp at this; omega)
      clear hown2 hrg2 hgrow
      go_roundw
      case rel => exact ⟨_, cnt1, zs ++ [x], HR2.out, HC1.out, by rw [encI_snoc]; simpa using HO2.out, HB2.out, HZ2.out⟩
      case measure => rw [HR2.out.left_eq, HRg.out.left_eq]; exact hlt
end Go.Proofs.Ytjfpaelmcepidaa
