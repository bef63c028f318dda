/- Weights, keys, numbers, and the seats. -/
import Derived.Test.YtjfpaelmcepidaaA8
import Derived.Test.YtjfpaelmcepidaaB0
import Derived.Test.YtjfpaelmcepidaaJ1
import Derived.Outline
import Derived.Test.YtjfpaelmcepidaaA2
import Derived.Test.YtjfpaelmcepidaaC0
namespace Go.Proofs.Ytjfpaelmcepidaa.PK
open Go.RowKit Go.Maps Go.Sort

def KeyRel (w : World) (b r B : Nat) (f : Int → Option Nat) (v : Value) (wr : World) : Prop :=
  ∃ (left : Lit → Bool) (cnt : Nat) (zs : List Int), RangeAt Try.prog 3 65 keyI litU KV wr b r f left cnt ∧ CollS keyI f left zs ∧ wr.ownsRow B 3 1 v zs.length (encI zs) ∧ Below w.heap.size w wr ∧ B ≤ wr.heap.size
set_option maxRecDepth 100000 in
set_option maxHeartbeats 1000000 in
theorem keysU_any (b : Nat) (f : Int → Option Nat) (w : World) (hm : MapAt Try.prog 3 65 keyI litU KV w b f) :
    Calls Try.prog 89 #[.map (some b)] w fun e w' => (∃ v zs, e = .returned v ∧ w'.ownsRow w.heap.size 3 1 v zs.length (encI zs) ∧ zs.length ≤ 1000 ∧ ∀ a, a ∈ zs ↔ (f a).isSome = true) ∧ Below w.heap.size w w' := by
  obtain ⟨i0, hi, hz0, hz1, hz2⟩ := info_parts Try.infoInt
  have HM := Lib.hid hm
  have hbw := hm.lt
  clear hm
  go_enter Try.func89, Try.ntmps89
  go_wp2_with (first | (at_range; refine wpList_range_map w rfl _ 57 rfl Try.underlying57 intKind b f HM.out rfl ?_; intro w0 left0 cnt0 hr0 hc0 hg0 hs0))
  go_frame
  have HR0 := Lib.hid hr0; have HC0 := Lib.hid hc0
  have HB0 : Hid (Below w.heap.size w w0) := Lib.hid ⟨hg0.os, hg0.tape, hg0.output, hg0.size, fun k hk => hg0.block k hk (by simp)⟩
  have HS0 := Lib.hid hs0
  have hz3 : w.heap.size < w0.heap.size := by omega
  clear hr0 hc0 hg0 hs0
  go_loopw [3] (fun v wr => KeyRel w b w.heap.size w0.heap.size f v wr) (fun _ wr => wr.rangeLeft b w.heap.size)
  case atStart => exact ⟨_, _, [], HR0.out, HC0.out, owns_nil _ _ _ _, HB0.out, Nat.le_refl _⟩
  case round =>
    obtain ⟨left, cnt, zs, hr, hc, ho, hb, hz⟩ := hrel
    have HR := Lib.hid hr; have HCl := Lib.hid hc; have HO := Lib.hid ho; have HB := Lib.hid hb
    have hzl : zs.length ≤ 1000 := by
      have h2 : zs.length ≤ allI.length := by
        obtain ⟨D, l, _, hM⟩ := hr
        exact hc.few fun a ha => allI_mem a (hM.ok a ((hM.mem a).2 ha))
      rwa [allI_thousand] at h2
    have hne3 := hr.ne
    clear hr hc ho hb
    go_wp2_with (first | (at_next; refine wpList_next_map wr rfl _ rfl intKind u32Elem b w.heap.size cnt f left rfl HR.out ?_ ?_))
    · intro hl
      have HFin := Lib.hid (HCl.out.fin hl)
      clear hl
      have HS := Lib.hid (sortI_any zs HO.out (by omega))
      have hgb : ∀ g, Value.ownBlock u3 = some g → w.heap.size ≤ g := fun g hg => by have := (owns_block HO.out hg).1; omega
      have HGb := Lib.hid hgb
      clear hgb
      go_wp2_with fail
      refine HS.out.mono ?_; rintro e w5 ⟨rfl, ho5, hg5⟩
      have HB5 := Lib.hid (HB.out.grown hg5 HB.out.size HGb.out)
      have HO5 := Lib.hid ho5
      clear ho5 hg5
      go_wp2_with fail
      go_ret
      obtain ⟨h1, h2, h3⟩ := sortL_facts zs
      refine ⟨⟨_, sortL zs, rfl, ?_, by rw [h3]; exact hzl, fun a => (h2 a).trans (HFin.out a)⟩, HB5.out⟩
      rw [h3]
      exact owns_base HO5.out (by omega)
    · intro x y w4 cnt4 hvz hfz hlz hr4 hlt4 hg4 hs4 hen
      have HC4 := Lib.hid (HR.out.coll intKind HCl.out hfz hlz)
      have HM4 := Lib.hid hlt4
      have HSz := Lib.hid hs4
      clear hs4
      obtain ⟨a0, c0, rfl⟩ := owns_shape HO.out
      have ho4 : w4.ownsRow w0.heap.size 3 1 (.slice a0 zs.length c0) zs.length (encI zs) := HO.out.kept hg4 (by
        cases h : (Value.slice a0 zs.length c0).ownBlock with
        | none => exact .inl rfl
        | some g => exact .inr (fun e => by have := (owns_block HO.out h).1; simp only [Option.some.injEq] at e; omega))
      have HO4 := Lib.hid ho4; have HR4 := Lib.hid hr4
      have HB4 : Hid (Below w.heap.size w w4) := Lib.hid (HB.out.grown hg4 HB.out.size (fun k hk => by simp only [Option.some.injEq] at hk; omega))
      have hz4 : w0.heap.size ≤ w4.heap.size := by have := HSz.out; omega
      clear ho4 hvz hfz hlz hr4 hg4 hlt4
      go_wp2_with (at_builtin; refine wpList_append_own _ rfl _ _ 43 rfl w0.heap.size 3 i0 (.int .i64 0) 1 8 Try.underlying43 hi hz0 hz1 hz2 rfl (by decide) _ _ _ rfl (HO4.out.alloc _) ⟨w4.heap.size, 0, none⟩ 1 1 [.int .i64 x] rfl rfl (cell_one_at _ _ _) (one_int _) (by unfold maxLen; omega) (by omega) (by simp; omega) ?_; intro v' w5 hown5 hgrow _)
      have HO5 : Hid (w5.ownsRow w0.heap.size 3 1 v' (zs ++ [x]).length (encI (zs ++ [x]))) := Lib.hid (by rw [encI_snoc]; simpa using hown5)
      have hne5 : ∀ g, (Value.slice a0 zs.length c0).ownBlock = some g → w0.heap.size ≤ g := fun g hg => (owns_block HO4.out hg).1
      have HR5 := Lib.hid ((HR4.out.alloc (.cells #[.int .i64 x] 3)).kept hgrow (fun e => by have := hne5 _ e.symm; omega) (fun e => by have := hne5 _ e.symm; omega))
      have HB5 : Hid (Below w.heap.size w w5) := Lib.hid ((HB4.out.alloc HB4.out.size _).grown hgrow (by have := HB4.out.size; simp; omega) (fun k hk => by have := hne5 k hk; omega))
      have HZ5 : Hid (w0.heap.size ≤ w5.heap.size) := Lib.hid (by have := hgrow.size; simp at this; omega)
      clear hown5 hgrow hne5
      go_roundw
      case rel => exact ⟨_, cnt4, _, HR5.out, HC4.out, HO5.out, HB5.out, HZ5.out⟩
      case measure => rw [HR5.out.left_eq, HR.out.left_eq]; exact HM4.out
end Go.Proofs.Ytjfpaelmcepidaa.PK
namespace Go.Proofs.Ytjfpaelmcepidaa.PK
open Go.RowKit

/-- An instruction reads or writes a register. -/
def touchB (x : Cd) (r : Int) : Prop := usesB x r = true ∨ defB x r = true
/-- .. some instruction ahead of instruction i of block b. -/
def Ment (ls : List (List Cd)) (b i : Nat) (r : Int) : Prop := ∃ b' i', i' < (atB ls b').length ∧ (b' < b ∨ (b' = b ∧ i' < i)) ∧ touchB (atC (atB ls b') i') r
theorem Ment.start (ls : List (List Cd)) (r : Int) : ¬ Ment ls 0 0 r := by rintro ⟨b', i', _, h | ⟨_, h⟩, _⟩ <;> omega
theorem Ment.turn (ls : List (List Cd)) (b : Nat) (r : Int) : Ment ls b (atB ls b).length r ↔ Ment ls (b + 1) 0 r := by
  constructor
  · rintro ⟨b', i', h1, h2, h3⟩
    exact ⟨b', i', h1, .inl (by omega), h3⟩
  · rintro ⟨b', i', h1, h2, h3⟩
    refine ⟨b', i', h1, ?_, h3⟩
    by_cases c : b' = b
    · subst c; exact .inr ⟨rfl, h1⟩
    · exact .inl (by omega)
theorem Ment.step {ls : List (List Cd)} {b i : Nat} (h : i < (atB ls b).length) (r : Int) : Ment ls b (i + 1) r ↔ (Ment ls b i r ∨ touchB (atC (atB ls b) i) r) := by
  constructor
  · rintro ⟨b', i', h1, h2, h3⟩
    by_cases c : b' = b ∧ i' = i
    · obtain ⟨rfl, rfl⟩ := c; exact .inr h3
    · exact .inl ⟨b', i', h1, by omega, h3⟩
  · rintro (⟨b', i', h1, h2, h3⟩ | h3)
    · exact ⟨b', i', h1, by omega, h3⟩
    · exact ⟨b, i, h, .inr ⟨rfl, by omega⟩, h3⟩
/-- A row of weights: positive exactly where P holds. -/
def WRow (w : World) (q rn : Nat) (bound : Nat) (P : Int → Prop) : Prop := ∃ W : Nat → Nat, TRow w q rn 3 (fun r => .int .i64 (W r : Nat)) ∧ (∀ r, r < rn → W r ≤ bound) ∧ ∀ r, r < rn → (0 < W r ↔ P (r : Int))
theorem WRow.congr {w : World} {q rn bound bound' : Nat} {P P' : Int → Prop} (h : WRow w q rn bound P) (hb : bound ≤ bound') (hP : ∀ r, P r ↔ P' r) : WRow w q rn bound' P' := by
  obtain ⟨W, h1, h2, h3⟩ := h
  exact ⟨W, h1, fun r hr => Nat.le_trans (h2 r hr) hb, fun r hr => (h3 r hr).trans (hP r)⟩
theorem WRow.below {w w' : World} {q rn bound : Nat} {P : Int → Prop} (h : WRow w q rn bound P) (hb : Below w.heap.size w w') : WRow w' q rn bound P := by
  obtain ⟨W, h1, h2, h3⟩ := h
  exact ⟨W, TRow.below h1 hb, h2, h3⟩
theorem WRow.lt {w : World} {q rn bound : Nat} {P : Int → Prop} (h : WRow w q rn bound P) : q < w.heap.size := by
  obtain ⟨W, h1, _⟩ := h; exact TRow.lt h1
/-- What one number more makes. -/
theorem WRow.get {w : World} {q rn bound : Nat} {P : Int → Prop} (h : WRow w q rn bound P) {r : Nat} (hr : r < rn) : ∃ v : Nat, w.cell? ⟨q, r, none⟩ = some (.int .i64 (v : Nat)) ∧ v ≤ bound ∧ w.frozen? ⟨q, r, none⟩ = false ∧ WRow (w.setCell ⟨q, r, none⟩ (.int .i64 ((v + 1 : Nat) : Int))) q rn (bound + 1) (fun x => x = r ∨ P x) := by
  obtain ⟨W, h1, h2, h3⟩ := h
  refine ⟨W r, TRow.cell h1 hr, h2 r hr, TRow.free h1 r, fun k => if k = r then W r + 1 else W k, ?_, fun k hk => ?_, fun k hk => ?_⟩
  · have := TRow.set h1 r (.int .i64 ((W r + 1 : Nat) : Int))
    have e : upd (fun r => Value.int .i64 ((W r : Nat) : Int)) r (.int .i64 ((W r + 1 : Nat) : Int)) = fun k => .int .i64 (((if k = r then W r + 1 else W k : Nat)) : Int) := by
      funext k; unfold upd; split <;> rfl
    rwa [e] at this
  · show (if k = r then W r + 1 else W k) ≤ bound + 1
    by_cases c : k = r
    · rw [if_pos c]; have := h2 r hr; omega
    · rw [if_neg c]; have := h2 k hk; omega
  · show 0 < (if k = r then W r + 1 else W k) ↔ ((k : Int) = r ∨ P (k : Int))
    by_cases c : k = r
    · rw [if_pos c]; subst c; simp
    · rw [if_neg c, h3 k hk]
      constructor
      · exact .inr
      · rintro (h | h)
        · omega
        · exact h
theorem use_mem {x : Cd} {r : Int} : r ∈ usesL x ↔ usesB x r = true := by unfold usesB; rw [List.contains_iff_mem]
set_option maxRecDepth 100000 in
set_option maxHeartbeats 4000000 in
theorem weigh_any (rn : Nat) (ls : List (List Cd)) (bl : Option Addr) (cap : Nat) (w : World) (hv : progErrW rn ls = 0) (hlm : ∀ k, k < ls.length → (atB ls k).length ≤ 400) (hin : BlkIn w bl ls) :
    Calls Try.prog 50 #[.agg #[.int .i64 (rn : Int), .slice bl ls.length cap]] w fun e w' => (∃ q, e = .returned (.slice (some ⟨q, 0, none⟩) rn rn) ∧ w.heap.size ≤ q ∧ WRow w' q rn 1000000 (Ment ls ls.length 0)) ∧ Below w.heap.size w w' := by
  obtain ⟨hbig, hcode, _⟩ := prog_partsW hv
  have hb2 : rn ≤ 200 ∧ 1 ≤ ls.length ∧ ls.length ≤ 400 := by unfold tooBigW at hbig; omega
  have HI := Lib.hid hin; have HC := Lib.hid hcode; have HLm := Lib.hid hlm
  have hmk0 := run_make_row' (P := Try.prog) 43 3 (.int .i64 0) 8 Try.underlying43 Try.infoInt rfl .i64 .i64 rn (by omega) (by omega)
  have HMk := Lib.hid hmk0
  clear hin hcode hlm hbig hv hmk0
  have h0 : (w.alloc (.cells #[.int .i64 (rn : Int), .slice bl ls.length cap] 24)).cell? ⟨w.heap.size, 0, none⟩ = some (.int .i64 (rn : Int)) := by simp [go_sem]
  have h1 : (w.alloc (.cells #[.int .i64 (rn : Int), .slice bl ls.length cap] 24)).cell? ⟨w.heap.size, 1, none⟩ = some (.slice bl ls.length cap) := by simp [go_sem]
  have HB0 : Hid (Below w.heap.size w (w.alloc (.cells #[.int .i64 (rn : Int), .slice bl ls.length cap] 24))) := Lib.hid ((Below.refl _ _).alloc (Nat.le_refl _) _)
  go_enter Try.func50, Try.ntmps50
  go_upto_region 1 with (fail)
  generalize w.alloc (.cells #[.int .i64 (rn : Int), .slice bl ls.length cap] 24) = w1 at *
  have hmk := HMk.out
  go_upto_region 2 with (fail)
  clear hmk
  have HQ : Hid (WRow (w1.alloc (.cells (madeCells #[.int .i64 0] rn) 3)) w1.heap.size rn 0 (fun _ => False)) := Lib.hid ⟨fun _ => 0, by
    unfold TRow
    rw [heap_at _ _ _ rfl, valArr_made]; rfl, fun _ _ => Nat.le_refl _, fun _ _ => by simp⟩
  have hba : Below w1.heap.size w1 (w1.alloc (.cells (madeCells #[.int .i64 0] rn) 3)) := (Below.refl _ _).alloc (Nat.le_refl _) _
  have k1 := keep h1 hba
  have HBa := Lib.hid hba
  have HZ : Hid (w.heap.size ≤ w1.heap.size) := Lib.hid HB0.out.size
  clear h0 h1 hba
  generalize w1.alloc (.cells (madeCells #[.int .i64 0] rn) 3) = w2 at *
  have HI1 := Lib.hid (HI.out.below HB0.out)
  obtain ⟨q, hq⟩ : ∃ q, w1.heap.size = q := ⟨_, rfl⟩
  have HQe := Lib.hid hq
  rw [hq] at HQ ⊢
  clear hq
  go_wp2_with fail
  go_loopw [21] (fun i wr => ∃ b : Nat, b ≤ ls.length ∧ i = .int .i64 b ∧ WRow wr q rn (1200 * b) (Ment ls b 0) ∧ Below w1.heap.size w1 wr) (fun i _ => ls.length - (intOf i).toNat)
  case atStart => exact ⟨0, Nat.zero_le _, rfl, HQ.out.congr (Nat.zero_le _) fun r => ⟨fun h => h.elim, fun h => (Ment.start _ _ h).elim⟩, HBa.out⟩
  case round =>
    obtain ⟨b, hb, rfl, hW, hlow⟩ := hrel
    by_cases hlt : b < ls.length
    rotate_left
    · obtain rfl : b = ls.length := by omega
      have HE := Lib.hid (hW.congr (bound' := 1000000) (by omega) fun _ => Iff.rfl)
      have HLow := Lib.hid hlow
      clear hW hlow
      go_wp2_with fail
      go_ret
      exact ⟨⟨_, rfl, by rw [← HQe.out]; exact HZ.out, HE.out⟩, HB0.out.trans (HLow.out.mono HZ.out)⟩
    have hbi : (b : Int) < (ls.length : Int) := by omega
    have hlb := HLm.out b hlt
    obtain ⟨cb, coff, ca, cc, hbe, hcell0, hcds⟩ := HI1.out b hlt
    have hcell := keep hcell0 hlow
    have HCds := Lib.hid hcds; have HW := Lib.hid hW; have HLow := Lib.hid hlow
    have HTurn := Lib.hid (Ment.turn ls b)
    subst hbe
    clear hW hlow hcell0 hcds
    generalize hm : (atB ls b).length = m at *
    have HM := Lib.hid hm; clear hm
    go_wp2_with fail
    clear hcell
    go_loopw [27] (fun i wr => ∃ k : Nat, k ≤ m ∧ i = .int .i64 k ∧ WRow wr q rn (1200 * b + 3 * k) (Ment ls b k) ∧ Below w1.heap.size w1 wr) (fun i _ => m - (intOf i).toNat)
    case atStart => exact ⟨0, Nat.zero_le _, rfl, HW.out.congr (by omega) fun _ => Iff.rfl, HLow.out⟩
    case round =>
      obtain ⟨i, hk, rfl, hW, hlow⟩ := hrel
      by_cases hil : i < m
      rotate_left
      · obtain rfl : i = m := by omega
        have HE := Lib.hid (hW.congr (bound' := 1200 * (b + 1)) (by omega) HTurn.out)
        have HLo := Lib.hid hlow
        clear hW hlow
        go_wp2_with fail
        go_roundw
        case rel => exact ⟨b + 1, by omega, by go_num, HE.out, HLo.out⟩
        case measure => simp [intOf]; omega
      have hii : (i : Int) < (m : Int) := by omega
      obtain ⟨xb, xoff, hxe, hx⟩ := HCds.out i (by rw [HM.out]; exact hil)
      have hx' : CdAt wr xb (xoff + i * 6) (atC (atB ls b) i) := hx.keep hlow
      have hX := HC.out b i hlt (by rw [HM.out]; exact hil)
      have HXs : Hid (∀ t ∈ usesL (atC (atB ls b) i), 0 ≤ t ∧ t < (rn : Int)) := Lib.hid (usesL_in hX)
      have HStep := Lib.hid (Ment.step (ls := ls) (b := b) (i := i) (by rw [HM.out]; exact hil))
      have hcp := code_parts hX
      have HDr := Lib.hid hcp.2.1
      have HX4 : Hid (isCodeB (atC (atB ls b) i) 200 400 = true) := Lib.hid (isCode_big hX (by omega) (by omega))
      have HW := Lib.hid hW; have HLo := Lib.hid hlow
      subst hxe
      generalize atC (atB ls b) i = x at *
      clear hW hlow hX hx hcp
      obtain ⟨x0, x1, x2, x3, x4, x5⟩ := hx'
      have HDef := Lib.hid (Defines_any x HX4.out)
      have HUse := Lib.hid (Uses_any x HX4.out)
      go_upto_region 8 with (fail)
      have hbx : Below wr.heap.size wr (wr.alloc (.cells #[.int .i64 x.op, .int .i64 x.d, .int .i64 x.a, .int .i64 x.b, .int .u32 x.im, .int .i64 x.to] 68)) := (Below.refl _ _).alloc (Nat.le_refl _) _
      have HWx := Lib.hid (HW.out.below hbx)
      have HLx := Lib.hid (HLo.out.trans (hbx.mono HLo.out.size))
      have HXx := Lib.hid (cdAt_new wr x 68)
      have hqx : wr.heap.size ≠ q := by have := HW.out.lt; omega
      clear x0 x1 x2 x3 x4 x5 hbx
      generalize wr.alloc (.cells #[.int .i64 x.op, .int .i64 x.d, .int .i64 x.a, .int .i64 x.b, .int .u32 x.im, .int .i64 x.to] 68) = wx at *
      generalize wr.heap.size = qx at *
      obtain ⟨x0, x1, x2, x3, x4, x5⟩ := HXx.out
      simp only [Nat.zero_add] at x1 x2 x3 x4 x5
      go_wp2_with fail
      refine (HUse.out _).mono ?_; rintro e w5 ⟨⟨v, rfl, ho⟩, hb5⟩
      have HW5 := Lib.hid (HWx.out.below hb5); have HL5 := Lib.hid (HLx.out.trans (hb5.mono HLx.out.size)); have HX5 := Lib.hid (HXx.out.keep hb5)
      obtain ⟨ua, uc, rfl⟩ := owns_shape ho
      have HU5 := Lib.hid (rowAt_owns ho (q := q) HWx.out.lt)
      have hul := usesL_len x
      clear ho hb5 x0 x1 x2 x3 x4 x5
      go_wp2_with fail
      go_loopw [38] (fun c wr => ∃ m2 : Nat, m2 ≤ (usesL x).length ∧ c = .int .i64 m2 ∧ WRow wr q rn (1200 * b + 3 * i + m2) (fun r => Ment ls b i r ∨ r ∈ (usesL x).take m2) ∧ Below w1.heap.size w1 wr ∧ CdAt wr qx 0 x ∧ RowAt wr q (.slice ua (usesL x).length uc) (usesL x)) (fun c _ => (usesL x).length - (intOf c).toNat)
      case atStart => exact ⟨0, Nat.zero_le _, rfl, HW5.out.congr (Nat.le_refl _) (fun r => by simp), HL5.out, HX5.out, HU5.out⟩
      case round =>
        obtain ⟨m2, hm2, rfl, hW, hlow, hcx, hu⟩ := hrel
        by_cases hlt2 : m2 < (usesL x).length
        · have HUw := Lib.hid hu
          obtain ⟨a', cap', e', hi', _⟩ := hu
          cases e'
          obtain ⟨ub, uoff, rfl, hcu⟩ := hi' m2 hlt2
          have hrn := HXs.out ((usesL x).getD m2 0) (by rw [List.getD_eq_getElem?_getD, List.getElem?_eq_getElem hlt2]; exact List.getElem_mem hlt2)
          obtain ⟨un, hune⟩ : ∃ un : Nat, (usesL x).getD m2 0 = un := ⟨((usesL x).getD m2 0).toNat, by omega⟩
          have HAdd := Lib.hid (addRow_step (S := Ment ls b i) hlt2)
          rw [hune] at hcu hrn HAdd
          obtain ⟨v, hcell, hvb, hfree, hnew⟩ := hW.get (show un < rn by omega)
          have HNew := Lib.hid (hnew.congr (bound' := 1200 * b + 3 * i + (m2 + 1)) (by omega) HAdd.out)
          have HLo2 := Lib.hid hlow; have HCx := Lib.hid hcx
          have hv63 : (v : Int) ≤ 10000000 := by omega
          have HQ1 : Hid (w1.heap.size ≤ q) := Lib.hid (by rw [HQe.out]; exact Nat.le_refl _)
          clear hW hlow hcx hi' hune hnew hvb
          have hml : (m2 : Int) < (usesL x).length := by omega
          generalize hlen : (usesL x).length = ul at *
          clear hlen
          go_wp2_with fail
          go_roundw
          case rel => exact ⟨m2 + 1, by omega, by go_num, (by simpa using HNew.out), HLo2.out.setCell HQ1.out _, HCx.out.save (Save.set _ _ _ _) hqx, RowAt.save HUw.out (Save.set _ _ _ _)⟩
          case measure => simp [intOf]; omega
        · have hme : m2 = (usesL x).length := by omega
          have HW6 := Lib.hid (hW.congr (bound' := 1200 * b + 3 * i + 2) (P' := fun r => Ment ls b i r ∨ usesB x r = true) (by omega) fun r => by rw [hme, List.take_length, use_mem])
          have HL6 := Lib.hid hlow; have HX6 := Lib.hid hcx
          obtain ⟨x0, x1, x2, x3, x4, x5⟩ := hcx
          simp only [Nat.zero_add] at x1 x2 x3 x4 x5
          clear hW hlow hu hme
          go_wp2_with fail
          refine (HDef.out _).mono ?_; rintro e w7 ⟨rfl, hb7⟩
          have HW7 := Lib.hid (HW6.out.below hb7); have HL7 := Lib.hid (HL6.out.trans (hb7.mono HL6.out.size))
          clear hb7 x0 x1 x2 x3 x4 x5
          cases hd : fD x.op
          · have HE := Lib.hid (HW7.out.congr (bound' := 1200 * b + 3 * (i + 1)) (P' := Ment ls b (i + 1)) (by omega) fun r => (by
              rw [HStep.out]
              unfold touchB
              rw [defB_no hd]; simp))
            go_wp2_with fail
            go_roundw
            case rel => exact ⟨i + 1, by omega, by go_num, HE.out, HL7.out⟩
            case measure => simp [intOf]; omega
          · obtain ⟨hd0, hd1⟩ := HDr.out hd
            obtain ⟨dn, hdn⟩ : ∃ dn : Nat, x.d = dn := ⟨x.d.toNat, by omega⟩
            obtain ⟨v, hcell, hvb, hfree, hnew⟩ := HW7.out.get (show dn < rn by omega)
            have HE := Lib.hid (hnew.congr (bound' := 1200 * b + 3 * (i + 1)) (P' := Ment ls b (i + 1)) (by omega) fun r => (by
              rw [HStep.out]
              unfold touchB defB
              rw [hd, hdn]
              constructor
              · rintro (rfl | h | h)
                · exact .inr (.inr (by simp))
                · exact .inl h
                · exact .inr (.inl h)
              · rintro (h | h | h)
                · exact .inr (.inl h)
                · exact .inr (.inr h)
                · exact .inl (by simp at h; exact h.symm)))
            have hv63 : (v : Int) ≤ 10000000 := by omega
            have HQ1 : Hid (w1.heap.size ≤ q) := Lib.hid (by rw [HQe.out]; exact Nat.le_refl _)
            have hdl : (dn : Int) < (rn : Int) := by omega
            rw [hdn]
            clear hnew hvb hd0 hd1 hdn
            go_wp2_with fail
            go_roundw
            case rel => exact ⟨i + 1, by omega, by go_num, (by simpa using HE.out), HL7.out.setCell HQ1.out _⟩
            case measure => simp [intOf]; omega
end Go.Proofs.Ytjfpaelmcepidaa.PK
namespace Go.Proofs.Ytjfpaelmcepidaa.PK
open Go.RowKit Go.Maps

def numN (o : Option Int) : Int := o.getD 0
theorem elimI (o : Option Int) : o.elim (Value.int .i64 0) (Value.int .i64) = .int .i64 (numN o) := by cases o <;> rfl
theorem numN_upd (f : Int → Option Int) (d y r : Int) : numN (updF f d y r) = if r = d then y else numN (f r) := by
  unfold updF
  split <;> rfl
theorem wpList_get_mapI {ops : Array Oper} {rest : List Oper} {o : Oper} {a : Act} {Q : Exit → Act → World → Prop} (w : World) (hg : o.guard = none) (m x : Operand) (t : TypeId) (hop : o.op = Op.lookup t m x false) (ht : Try.prog.underlying t = some (.map 3 3)) (b : Nat) (f : Int → Option Int) (h : MapAt Try.prog 3 3 keyI litI KV w b f)
    (hm : a.eval m = .map (some b)) (x0 : Int) (hV : KV x0) (hx : a.eval x = .int .i64 x0) (hK : wpList Try.prog ops Q rest (a.put o.dst (.int .i64 (numN (f x0)))) w) : wpList Try.prog ops Q (o :: rest) a w :=
  wpList_get_map w hg m x t hop ht intKind intElem zeroI b f h hm x0 hV hx (by rw [elimI]; exact hK)
/-- Counts and numbers ahead of instruction i of block b. -/
structure NI (ls : List (List Cd)) (b i : Nat) (bound : Int) (cnt : Int → Option Int) (out : Int → Option Nat) : Prop where
  pos : ∀ r, 0 ≤ numN (cnt r) ∧ numN (cnt r) ≤ bound
  zero : ∀ r, numN (cnt r) = 0 → ∀ b' i', i' < (atB ls b').length → (b' < b ∨ (b' = b ∧ i' < i)) → defB (atC (atB ls b') i') r = false
  one : ∀ r, numN (cnt r) = 1 → ∀ b' i', i' < (atB ls b').length → (b' < b ∨ (b' = b ∧ i' < i)) → defB (atC (atB ls b') i') r = true → (atC (atB ls b') i').op = 0 ∧ out r = some (atC (atB ls b') i').im
  bd : ∀ r n, out r = some n → n < 4294967296
theorem NI.start (ls : List (List Cd)) : NI ls 0 0 0 (fun _ => none) (fun _ => none) :=
  ⟨fun _ => ⟨Int.le_refl _, Int.le_refl _⟩, fun _ _ b' i' _ h => by omega, fun _ _ b' i' _ h => by omega, fun _ _ h => by cases h⟩
theorem NI.turn {ls : List (List Cd)} {b : Nat} {bound bound' : Int} {cnt : Int → Option Int} {out : Int → Option Nat} (h : NI ls b (atB ls b).length bound cnt out) (hb : bound ≤ bound') : NI ls (b + 1) 0 bound' cnt out := by
  have hk : ∀ b' i', i' < (atB ls b').length → (b' < b + 1 ∨ (b' = b + 1 ∧ i' < 0)) → (b' < b ∨ (b' = b ∧ i' < (atB ls b).length)) := fun b' i' h1 h2 => by
    by_cases c : b' = b
    · subst c; exact .inr ⟨rfl, h1⟩
    · exact .inl (by omega)
  exact ⟨fun r => ⟨(h.pos r).1, Int.le_trans (h.pos r).2 hb⟩, fun r hr b' i' h1 h2 => h.zero r hr b' i' h1 (hk _ _ h1 h2), fun r hr b' i' h1 h2 => h.one r hr b' i' h1 (hk _ _ h1 h2), h.bd⟩
section
variable {ls : List (List Cd)} {b i : Nat} {bound bound' : Int} {cnt : Int → Option Int} {out : Int → Option Nat} {x : Cd}
theorem ahead_cases {b' i' : Nat} (h : b' < b ∨ (b' = b ∧ i' < i + 1)) : (b' < b ∨ (b' = b ∧ i' < i)) ∨ (b' = b ∧ i' = i) := by omega
theorem NI.same (h : NI ls b i bound cnt out) (hx : atC (atB ls b) i = x) (hd : fD x.op = false) (hb : bound ≤ bound') : NI ls b (i + 1) bound' cnt out := by
  refine ⟨fun r => ⟨(h.pos r).1, Int.le_trans (h.pos r).2 hb⟩, fun r hr b' i' h1 h2 => ?_, fun r hr b' i' h1 h2 h3 => ?_, h.bd⟩
  · rcases ahead_cases h2 with h2 | ⟨rfl, rfl⟩
    · exact h.zero r hr b' i' h1 h2
    · rw [hx]; exact defB_no hd
  · rcases ahead_cases h2 with h2 | ⟨rfl, rfl⟩
    · exact h.one r hr b' i' h1 h2 h3
    · rw [hx, defB_no hd] at h3; cases h3
theorem defB_d (hd : fD x.op = true) (r : Int) : defB x r = decide (x.d = r) := by unfold defB; rw [hd]; rfl
theorem NI.li (h : NI ls b i bound cnt out) (hx : atC (atB ls b) i = x) (hd : fD x.op = true) (h0 : x.op = 0) {y : Int} (hy : numN (cnt x.d) + 1 = y) (hb : bound + 2 ≤ bound') (hi : x.im < 4294967296) : NI ls b (i + 1) bound' (updF cnt x.d y) (updF out x.d x.im) := by
  refine ⟨fun r => ?_, fun r hr b' i' h1 h2 => ?_, fun r hr b' i' h1 h2 h3 => ?_, fun r n hr => by
    unfold updF at hr
    split at hr
    · cases hr; exact hi
    · exact h.bd r n hr⟩
  · have p1 := h.pos r
    rw [numN_upd]
    split
    · rename_i e; subst e; omega
    · omega
  · rw [numN_upd] at hr
    split at hr
    · rename_i e; have := (h.pos x.d).1; omega
    · rename_i e
      rcases ahead_cases h2 with h2 | ⟨rfl, rfl⟩
      · exact h.zero r hr b' i' h1 h2
      · rw [hx, defB_d hd]; exact decide_eq_false (fun c => e c.symm)
  · rw [numN_upd] at hr
    split at hr
    · rename_i e; subst e
      rcases ahead_cases h2 with h2 | ⟨rfl, rfl⟩
      · rw [h.zero x.d (by omega) b' i' h1 h2] at h3; cases h3
      · rw [hx]; exact ⟨h0, by unfold updF; rw [if_pos rfl]⟩
    · rename_i e
      rcases ahead_cases h2 with h2 | ⟨rfl, rfl⟩
      · have := h.one r hr b' i' h1 h2 h3
        unfold updF; rw [if_neg e]; exact this
      · rw [hx, defB_d hd] at h3; exact absurd (of_decide_eq_true h3).symm e
theorem NI.no (h : NI ls b i bound cnt out) (hx : atC (atB ls b) i = x) (hd : fD x.op = true) {y : Int} (hy : numN (cnt x.d) + 2 = y) (hb : bound + 2 ≤ bound') : NI ls b (i + 1) bound' (updF cnt x.d y) out := by
  refine ⟨fun r => ?_, fun r hr b' i' h1 h2 => ?_, fun r hr b' i' h1 h2 h3 => ?_, h.bd⟩
  · have p1 := h.pos r
    rw [numN_upd]
    split
    · rename_i e; subst e; omega
    · omega
  · rw [numN_upd] at hr
    split at hr
    · rename_i e; have := (h.pos x.d).1; omega
    · rename_i e
      rcases ahead_cases h2 with h2 | ⟨rfl, rfl⟩
      · exact h.zero r hr b' i' h1 h2
      · rw [hx, defB_d hd]; exact decide_eq_false (fun c => e c.symm)
  · rw [numN_upd] at hr
    split at hr
    · rename_i e; have := (h.pos x.d).1; omega
    · rename_i e
      rcases ahead_cases h2 with h2 | ⟨rfl, rfl⟩
      · exact h.one r hr b' i' h1 h2 h3
      · rw [hx, defB_d hd] at h3; exact absurd (of_decide_eq_true h3).symm e
end
/-- Numbers that may be made anew. -/
def NumOk (ls : List (List Cd)) (inn : Int → Int → Bool) (f : Int → Option Nat) : Prop := ∀ r n, f r = some n → (∀ b x, x ∈ atB ls b → defB x r = true → x.op = 0 ∧ x.im = n) ∧ inn 0 r = false ∧ n < 4294967296
/-- What the second loop leaves. -/
def Cut (out : Int → Option Nat) (zs : List Int) (k : Nat) (ok : Int → Bool) (f : Int → Option Nat) : Prop := ∀ r n, f r = some n → out r = some n ∧ (r ∈ zs.take k → ok r = true)
theorem Cut.start (out : Int → Option Nat) (zs : List Int) (ok : Int → Bool) : Cut out zs 0 ok out := fun _ _ h => ⟨h, fun h => by simp at h⟩
theorem take_snoc {zs : List Int} {k : Nat} (hk : k < zs.length) {r : Int} : r ∈ zs.take (k + 1) ↔ (r ∈ zs.take k ∨ r = zs.getD k 0) := by
  rw [List.take_succ_eq_append_getElem hk, List.mem_append, List.mem_singleton, List.getD_eq_getElem?_getD, List.getElem?_eq_getElem hk]; rfl
theorem Cut.keep {out f : Int → Option Nat} {zs : List Int} {k : Nat} {ok : Int → Bool} (h : Cut out zs k ok f) (hk : k < zs.length) (ho : ok (zs.getD k 0) = true) : Cut out zs (k + 1) ok f := fun r n hr => by
  obtain ⟨h1, h2⟩ := h r n hr
  refine ⟨h1, fun hm => ?_⟩
  rcases (take_snoc hk).1 hm with hm | rfl
  · exact h2 hm
  · exact ho
theorem Cut.drop {out f : Int → Option Nat} {zs : List Int} {k : Nat} {ok : Int → Bool} (h : Cut out zs k ok f) (hk : k < zs.length) : Cut out zs (k + 1) ok (delF f (zs.getD k 0)) := fun r n hr => by
  unfold delF at hr
  split at hr
  · cases hr
  · rename_i e
    obtain ⟨h1, h2⟩ := h r n hr
    refine ⟨h1, fun hm => ?_⟩
    rcases (take_snoc hk).1 hm with hm | rfl
    · exact h2 hm
    · exact absurd rfl e
/-- Whether a number stands. -/
def okN (cnt : Int → Option Int) (l0 : List Int) (r : Int) : Bool := decide (numN (cnt r) = 1) && !l0.contains r
theorem NumOk.of {ls : List (List Cd)} {L : List (List Int)} {bound : Int} {cnt : Int → Option Int} {out f : Int → Option Nat} {zs : List Int} (hN : NI ls ls.length 0 bound cnt out) (hz : ∀ a, a ∈ zs ↔ (out a).isSome = true) (hc : Cut out zs zs.length (okN cnt (L.getD 0 [])) f) : NumOk ls (tabI L) f := fun r n hr => by
  obtain ⟨h1, h2⟩ := hc r n hr
  have h3 := h2 (by rw [List.take_length]; exact (hz r).2 (by rw [h1]; rfl))
  unfold okN at h3
  rw [Bool.and_eq_true] at h3
  obtain ⟨h3, h4⟩ := h3
  refine ⟨fun b x hx hd => ?_, ?_, hN.bd r n h1⟩
  · obtain ⟨j, hj, rfl⟩ := List.getElem_of_mem hx
    have hb : b < ls.length := by
      by_cases c : b < ls.length
      · exact c
      · exfalso
        unfold atB at hj
        rw [List.getD_eq_getElem?_getD, List.getElem?_eq_none (by omega)] at hj
        exact absurd hj (Nat.not_lt_zero _)
    have := hN.one r (of_decide_eq_true h3) b j hj (.inl hb) (by rw [atC_get hj]; exact hd)
    rw [atC_get hj] at this
    exact ⟨this.1, by have := this.2; rw [h1] at this; exact (Option.some.inj this).symm⟩
  · unfold tabI
    refine decide_eq_false fun c => ?_
    have c2 : r ∈ L.getD 0 [] := c
    rw [List.contains_iff_mem.2 c2] at h4; cases h4
theorem RowsIn.turn {w w' : World} {a : Option Addr} {L : List (List Int)} {q : Nat} (h : RowsIn w a L) (hs : Save q w w') (hne : ∀ b j v, w.cell? ⟨b, j, none⟩ = some v → b ≠ q) : RowsIn w' a L := fun k hk => by
  obtain ⟨b, off, a', cap, rfl, hc, hi⟩ := h k hk
  refine ⟨b, off, a', cap, rfl, hs.cell (hne _ _ _ hc) hc, fun j hj => ?_⟩
  obtain ⟨b2, off2, e, hc2⟩ := hi j hj
  exact ⟨b2, off2, e, hs.cell (hne _ _ _ hc2) hc2⟩
/-- How things stand in the second loop. -/
def DropRel (w1 : World) (L : List (List Int)) (ia : Option Addr) (zs : List Int) (ks : Value) (cnt : Int → Option Int) (out : Int → Option Nat) (k : Nat) (wr : World) : Prop :=
  MapAt Try.prog 3 3 keyI litI KV wr w1.heap.size cnt ∧ (∃ f, MapAt Try.prog 3 65 keyI litU KV wr (w1.heap.size + 1) f ∧ Cut out zs k (okN cnt (L.getD 0 [])) f) ∧ Below w1.heap.size w1 wr ∧ RowsIn wr ia L ∧ RowAt wr (w1.heap.size + 1) ks zs
/-- How things stand in numbers' walk. -/
def NumRel (w1 : World) (ls : List (List Cd)) (b i : Nat) (bound : Int) (wr : World) : Prop := ∃ cnt out, MapAt Try.prog 3 3 keyI litI KV wr w1.heap.size cnt ∧ MapAt Try.prog 3 65 keyI litU KV wr (w1.heap.size + 1) out ∧ NI ls b i bound cnt out ∧ Below w1.heap.size w1 wr
set_option maxRecDepth 100000 in
set_option maxHeartbeats 4000000 in
theorem numbers_any (rn : Nat) (ls : List (List Cd)) (L : List (List Int)) (bl : Option Addr) (cap : Nat) (w : World) (hv : progErrW rn ls = 0) (hlm : ∀ k, k < ls.length → (atB ls k).length ≤ 400) (him : ∀ b i, (atC (atB ls b) i).im < 4294967296) (hL : LiveOf ls rn L) (hin : BlkIn w bl ls) :
    Calls Try.prog 53 #[.agg #[.int .i64 (rn : Int), .slice bl ls.length cap]] w fun e w' => (∃ mo f, e = .returned (.map (some mo)) ∧ w.heap.size ≤ mo ∧ MapAt Try.prog 3 65 keyI litU KV w' mo f ∧ NumOk ls (tabI L) f) ∧ Below w.heap.size w w' := by
  obtain ⟨hbig, hcode, _⟩ := prog_partsW hv
  have hb2 : rn ≤ 200 ∧ 1 ≤ ls.length ∧ ls.length ≤ 400 := by unfold tooBigW at hbig; omega
  have HI := Lib.hid hin; have HC := Lib.hid hcode; have HLm := Lib.hid hlm; have HIm := Lib.hid him
  have HMk := Lib.hid (@run_makeMap Try.prog)
  have HLive := Lib.hid (fun u (h : BlkIn u bl ls) => sLive_is rn ls L bl cap u h hv (fun k hk => Nat.le_trans (hlm k hk) (by omega)) hL)
  have HLl : Hid (L.length = ls.length ∧ (L.getD 0 []).length ≤ 200) := Lib.hid ⟨hL.len, Nat.le_trans (hL.row 0) (by omega)⟩
  clear hin hcode hlm hbig hv him hL
  have h0 : (w.alloc (.cells #[.int .i64 (rn : Int), .slice bl ls.length cap] 24)).cell? ⟨w.heap.size, 0, none⟩ = some (.int .i64 (rn : Int)) := by simp [go_sem]
  have h1 : (w.alloc (.cells #[.int .i64 (rn : Int), .slice bl ls.length cap] 24)).cell? ⟨w.heap.size, 1, none⟩ = some (.slice bl ls.length cap) := by simp [go_sem]
  have HB0 : Hid (Below w.heap.size w (w.alloc (.cells #[.int .i64 (rn : Int), .slice bl ls.length cap] 24))) := Lib.hid ((Below.refl _ _).alloc (Nat.le_refl _) _)
  go_enter Try.func53, Try.ntmps53
  go_upto_region 1 with (fail)
  generalize w.alloc (.cells #[.int .i64 (rn : Int), .slice bl ls.length cap] 24) = w1 at *
  have hmm := HMk.out
  go_upto_region 3 with (fail)
  clear hmm
  have HM1 : Hid (MapAt Try.prog 3 3 keyI litI KV ((w1.alloc (.map #[] 0)).alloc (.map #[] 0)) w1.heap.size (fun _ => (none : Option Int))) := Lib.hid ((MapAt.made _ _ _ _ _ _ w1).alloc _)
  have HM2 : Hid (MapAt Try.prog 3 65 keyI litU KV ((w1.alloc (.map #[] 0)).alloc (.map #[] 0)) (w1.heap.size + 1) (fun _ => (none : Option Nat))) := Lib.hid (by
    have := MapAt.made Try.prog 3 65 keyI litU KV (β := Nat) (w1.alloc (.map #[] 0))
    simpa using this)
  have hba : Below w1.heap.size w1 ((w1.alloc (.map #[] 0)).alloc (.map #[] 0)) := ((Below.refl _ _).alloc (Nat.le_refl _) _).alloc (by simp) _
  have k1 := keep h1 hba
  have k0 := keep h0 hba
  have HBa := Lib.hid hba
  clear hba
  have HZ : Hid (w.heap.size ≤ w1.heap.size) := Lib.hid HB0.out.size
  have HI1 := Lib.hid (HI.out.below HB0.out)
  have H0 := Lib.hid h0; have H1 := Lib.hid h1
  have HSz2 : Hid (((w1.alloc (.map #[] 0)).alloc (.map #[] 0)).heap.size = w1.heap.size + 2) := Lib.hid (by simp)
  clear h0 h1
  generalize (w1.alloc (.map #[] 0)).alloc (.map #[] 0) = w2 at *
  clear k0
  go_wp2_with fail
  clear k1
  go_loopw [21] (fun i wr => ∃ b : Nat, b ≤ ls.length ∧ i = .int .i64 b ∧ NumRel w1 ls b 0 (1000 * b) wr) (fun i _ => ls.length - (intOf i).toNat)
  case atStart => exact ⟨0, Nat.zero_le _, rfl, _, _, HM1.out, HM2.out, NI.start ls, HBa.out⟩
  case round =>
    obtain ⟨b, hb, rfl, cnt, out, hm1, hm2, hn, hlow⟩ := hrel
    by_cases hlt : b < ls.length
    rotate_left
    · obtain rfl : b = ls.length := by omega
      have HN := Lib.hid hn; have HM3 := Lib.hid hm1; have HM4 := Lib.hid hm2; have HLow := Lib.hid hlow
      have k0 := keep H0.out hlow
      have k1 := keep H1.out hlow
      have HLv := Lib.hid (HLive.out wr (HI1.out.below hlow))
      clear hn hm1 hm2 hlow
      go_wp2_with fail
      refine HLv.out.mono ?_; rintro e w5 ⟨⟨ia, ic, rfl, hr5⟩, hb5⟩
      have HM5 := Lib.hid (HM3.out.below hb5); have HM6 := Lib.hid (HM4.out.below hb5); have HLo5 := Lib.hid (HLow.out.trans (hb5.mono HLow.out.size)); have HR5 := Lib.hid hr5
      clear hb5 hr5 k0 k1
      have HKeys := Lib.hid (keysU_any _ _ w5 HM6.out)
      go_wp2_with fail
      refine HKeys.out.mono ?_; rintro e w6 ⟨⟨v, zs, rfl, ho, hzl, hz⟩, hb6⟩
      obtain ⟨ka, kc, rfl⟩ := owns_shape ho
      have HZs := Lib.hid hz
      have HIn6 := Lib.hid (rowAt_owns ho (q := w1.heap.size + 1) (by have := HM6.out.lt; omega))
      have HM7 := Lib.hid (HM5.out.below hb6); have HM8 := Lib.hid (HM6.out.below hb6); have HLo6 := Lib.hid (HLo5.out.trans (hb6.mono HLo5.out.size)); have HR6 := Lib.hid (HR5.out.below hb6)
      clear hb6 ho hz
      go_wp2_with fail
      go_loopw [63] (fun i wr => ∃ k : Nat, k ≤ zs.length ∧ i = .int .i64 k ∧ DropRel w1 L ia zs (.slice ka zs.length kc) cnt out k wr) (fun i _ => zs.length - (intOf i).toNat)
      case atStart => exact ⟨0, Nat.zero_le _, rfl, HM7.out, ⟨_, HM8.out, Cut.start _ _ _⟩, HLo6.out, HR6.out, HIn6.out⟩
      case round =>
        obtain ⟨k, hk, rfl, hmc, ⟨f, hmf, hcut⟩, hlow, hrows, hrow⟩ := hrel
        have HMc := Lib.hid hmc; have HMf := Lib.hid hmf; have HCut := Lib.hid hcut; have HLow := Lib.hid hlow; have HRows := Lib.hid hrows; have HRow := Lib.hid hrow
        by_cases hkl : k < zs.length
        rotate_left
        · obtain rfl : k = zs.length := by omega
          have HEnd := Lib.hid (NumOk.of HN.out HZs.out hcut)
          clear hmc hmf hcut hlow hrows hrow
          go_wp2_with fail
          go_ret
          exact ⟨⟨_, f, rfl, by have := HZ.out; omega, HMf.out, HEnd.out⟩, HB0.out.trans (HLow.out.mono HZ.out)⟩
        obtain ⟨ka', kc', e', hki, hkne⟩ := hrow
        cases e'
        obtain ⟨kb, koff, rfl, hkc⟩ := hki k hkl
        have hr : KV (zs.getD k 0) := by
          obtain ⟨D, l, _, hM⟩ := HM6.out
          exact hM.ok _ ((hM.mem _).2 ((HZs.out _).1 (by rw [List.getD_eq_getElem?_getD, List.getElem?_eq_getElem hkl]; exact List.getElem_mem hkl)))
        obtain ⟨ib, ioff, a', cap', rfl, hic, hii⟩ := hrows 0 (by rw [HLl.out.1]; omega)
        rw [Nat.add_zero] at hic
        have HCon := Lib.hid (contains_any (L.getD 0 []) a' cap' (zs.getD k 0) wr hii (by have := HLl.out.2; omega))
        have HOk : Hid (okN cnt (L.getD 0 []) (zs.getD k 0) = (decide (numN (cnt (zs.getD k 0)) = 1) && !(L.getD 0 []).contains (zs.getD k 0))) := Lib.hid rfl
        have HKeep := Lib.hid (HCut.out.keep hkl)
        have HDrop := Lib.hid (HCut.out.drop hkl)
        have hki2 : (k : Int) < (zs.length : Int) := by omega
        have hl0 : (0 : Int) < (L.length : Int) := by rw [HLl.out.1]; omega
        have hl0n : 0 < L.length := by omega
        clear hmc hmf hcut hlow hrows hki hkne hii
        generalize hzr : zs.getD k 0 = r at *
        clear hzr
        generalize hzl2 : zs.length = zl at *
        clear hzl2
        have HV := Lib.hid hr
        generalize (L.getD 0 []).contains r = bq at *
        generalize (L.getD 0 []).length = ll at *
        by_cases hc1 : numN (cnt r) = 1
        · rw [decide_eq_true hc1, Bool.true_and] at HOk
          have HC1 := Lib.hid hc1
          go_wp2_with (first | (at_lookup; refine wpList_get_mapI wr rfl _ _ 56 rfl Try.underlying56 w1.heap.size cnt HMc.out rfl r HV.out rfl ?_; rw [HC1.out]))
          refine HCon.out.mono ?_; rintro e w6 ⟨rfl, rfl⟩
          cases bq
          · have HK2 := Lib.hid (HKeep.out HOk.out)
            go_wp2_with fail
            go_roundw
            case rel => exact ⟨k + 1, by omega, by go_num, HMc.out, ⟨_, HMf.out, HK2.out⟩, HLow.out, HRows.out, HRow.out⟩
            case measure => simp [intOf]; omega
          · go_wp2_with (first | (at_delete; refine wpList_del_map _ rfl _ _ 57 rfl Try.underlying57 intKind (w1.heap.size + 1) f HMf.out rfl r HV.out rfl ?_; intro w7 hd7 ht7; have HS7 := Lib.hid (save_turned ht7); have HD7 := Lib.hid hd7; have HC7 := Lib.hid (HMc.out.kept ht7.grown (by simp)); clear hd7 ht7))
            go_roundw
            case rel => exact ⟨k + 1, by omega, by go_num, HC7.out, ⟨_, HD7.out, HDrop.out⟩, HLow.out.trans (HS7.out.below (by omega) HLow.out.size), HRows.out.turn HS7.out (fun _ _ _ => HMf.out.ne), HRow.out.save HS7.out⟩
            case measure => simp [intOf]; omega
        · go_wp2_with (first | (at_lookup; refine wpList_get_mapI wr rfl _ _ 56 rfl Try.underlying56 w1.heap.size cnt HMc.out rfl r HV.out rfl ?_; generalize numN (cnt r) = cn at *) | (at_delete; refine wpList_del_map _ rfl _ _ 57 rfl Try.underlying57 intKind (w1.heap.size + 1) f HMf.out rfl r HV.out rfl ?_; intro w7 hd7 ht7; have HS7 := Lib.hid (save_turned ht7); have HD7 := Lib.hid hd7; have HC7 := Lib.hid (HMc.out.kept ht7.grown (by simp)); clear hd7 ht7))
          go_roundw
          case rel => exact ⟨k + 1, by omega, by go_num, HC7.out, ⟨_, HD7.out, HDrop.out⟩, HLow.out.trans (HS7.out.below (by omega) HLow.out.size), HRows.out.turn HS7.out (fun _ _ _ => HMf.out.ne), HRow.out.save HS7.out⟩
          case measure => simp [intOf]; omega
    have hbi : (b : Int) < (ls.length : Int) := by omega
    have hlb := HLm.out b hlt
    obtain ⟨cb, coff, ca, cc, hbe, hcell0, hcds⟩ := HI1.out b hlt
    have hcell := keep hcell0 hlow
    have HCds := Lib.hid hcds
    have HW0 : Hid (NumRel w1 ls b 0 (1000 * b) wr) := Lib.hid ⟨cnt, out, hm1, hm2, hn, hlow⟩
    have HTurn : Hid (∀ wr, NumRel w1 ls b (atB ls b).length (1000 * b + 2 * (atB ls b).length) wr → NumRel w1 ls (b + 1) 0 (1000 * (b + 1)) wr) := Lib.hid fun _ ⟨c, o, h1, h2, h3, h4⟩ => ⟨c, o, h1, h2, h3.turn (by omega), h4⟩
    subst hbe
    clear hm1 hm2 hn hlow hcell0 hcds
    generalize hm : (atB ls b).length = m at *
    have HM := Lib.hid hm; clear hm
    go_wp2_with fail
    clear hcell
    go_loopw [27] (fun i wr => ∃ k : Nat, k ≤ m ∧ i = .int .i64 k ∧ NumRel w1 ls b k (1000 * b + 2 * k) wr) (fun i _ => m - (intOf i).toNat)
    case atStart => exact ⟨0, Nat.zero_le _, rfl, by simpa using HW0.out⟩
    case round =>
      obtain ⟨i, hk, rfl, hW⟩ := hrel
      by_cases hil : i < m
      rotate_left
      · obtain rfl : i = m := by omega
        have HE := Lib.hid (HTurn.out _ hW)
        clear hW
        go_wp2_with fail
        go_roundw
        case rel => exact ⟨b + 1, by omega, by go_num, HE.out⟩
        case measure => simp [intOf]; omega
      obtain ⟨cn, on, hm1, hm2, hn, hlow⟩ := hW
      have hii : (i : Int) < (m : Int) := by omega
      obtain ⟨xb, xoff, hxe, hx⟩ := HCds.out i (by rw [HM.out]; exact hil)
      have hx' : CdAt wr xb (xoff + i * 6) (atC (atB ls b) i) := hx.keep hlow
      have hX := HC.out b i hlt (by rw [HM.out]; exact hil)
      have hcp := code_parts hX
      have HDr := Lib.hid hcp.2.1
      have HX4 : Hid (isCodeB (atC (atB ls b) i) 200 400 = true) := Lib.hid (isCode_big hX (by omega) (by omega))
      have HXi : Hid ((atC (atB ls b) i).im < 4294967296) := Lib.hid (HIm.out b i)
      obtain ⟨x, hxx⟩ : ∃ x, atC (atB ls b) i = x := ⟨_, rfl⟩
      have HXX := Lib.hid hxx
      have HM1 := Lib.hid hm1; have HM2 := Lib.hid hm2; have HN := Lib.hid hn; have HLo := Lib.hid hlow
      subst hxe
      rw [hxx] at hx' HDr HX4 HXi
      clear hm1 hm2 hn hlow hX hx hcp hxx
      obtain ⟨x0, x1, x2, x3, x4, x5⟩ := hx'
      have HDef := Lib.hid (Defines_any x HX4.out)
      go_upto_region 9 with (fail)
      have hbx : Below wr.heap.size wr (wr.alloc (.cells #[.int .i64 x.op, .int .i64 x.d, .int .i64 x.a, .int .i64 x.b, .int .u32 x.im, .int .i64 x.to] 68)) := (Below.refl _ _).alloc (Nat.le_refl _) _
      have HM3 := Lib.hid (HM1.out.below hbx); have HM4 := Lib.hid (HM2.out.below hbx)
      have HLx := Lib.hid (HLo.out.trans (hbx.mono HLo.out.size))
      have HXx := Lib.hid (cdAt_new wr x 68)
      have hq1 : wr.heap.size ≠ w1.heap.size := by have := HM1.out.lt; omega
      have hq2 : wr.heap.size ≠ w1.heap.size + 1 := by have := HM2.out.lt; omega
      clear x0 x1 x2 x3 x4 x5 hbx
      generalize wr.alloc (.cells #[.int .i64 x.op, .int .i64 x.d, .int .i64 x.a, .int .i64 x.b, .int .u32 x.im, .int .i64 x.to] 68) = wx at *
      generalize wr.heap.size = qx at *
      obtain ⟨x0, x1, x2, x3, x4, x5⟩ := HXx.out
      simp only [Nat.zero_add] at x1 x2 x3 x4 x5
      go_wp2_with fail
      refine (HDef.out _).mono ?_; rintro e w7 ⟨rfl, hb7⟩
      have HM5 := Lib.hid (HM3.out.below hb7); have HM6 := Lib.hid (HM4.out.below hb7); have HLo7 := Lib.hid (HLx.out.trans (hb7.mono HLx.out.size)); have HX7 := Lib.hid (HXx.out.keep hb7)
      clear hb7 x0 x1 x2 x3 x4 x5
      cases hd : fD x.op
      · have HE := Lib.hid (HN.out.same HXX.out hd (bound' := 1000 * b + 2 * ((i + 1 : Nat) : Int)) (by omega))
        go_wp2_with fail
        go_roundw
        case rel => exact ⟨i + 1, by omega, by go_num, cn, on, HM5.out, HM6.out, HE.out, HLo7.out⟩
        case measure => simp [intOf]; omega
      · obtain ⟨hd0, hd1⟩ := HDr.out hd
        have HV : Hid (KV x.d) := Lib.hid ⟨hd0, by omega⟩
        obtain ⟨y, hy⟩ : ∃ y, numN (cn x.d) + 1 = y := ⟨_, rfl⟩
        have hp := HN.out.pos x.d
        have HY := Lib.hid hy
        have hy0 : numN (cn x.d) = y - 1 := by omega
        have HY0 := Lib.hid hy0
        have hyb : 1 ≤ y ∧ y ≤ 1000000 := by omega
        clear hp hy hy0 hd0 hd1
        obtain ⟨x0, x1, x2, x3, x4, x5⟩ := HX7.out
        simp only [Nat.zero_add] at x1 x2 x3 x4 x5
        by_cases h0 : x.op = 0
        · have HE := Lib.hid (HN.out.li HXX.out hd h0 HY.out (bound' := 1000 * b + 2 * ((i + 1 : Nat) : Int)) (by omega) HXi.out)
          go_wp2_with (first | (at_lookup; refine wpList_get_mapI w7 rfl _ _ 56 rfl Try.underlying56 w1.heap.size cn HM5.out rfl x.d HV.out rfl ?_; rw [HY0.out]) | (at_mapUpdate; refine wpList_put_map _ rfl _ _ _ 56 rfl Try.underlying56 intKind intElem allI allI_mem allI_len w1.heap.size cn HM5.out rfl x.d y HV.out (And.intro (by omega) (by omega)) rfl rfl ?_; intro w8 hc8 hg8; have HC8 := Lib.hid hc8; have HO8 := Lib.hid (HM6.out.kept hg8 (by simp)); have HL8 := Lib.hid (HLo7.out.grown hg8 HLo7.out.size (fun k hk => by simp only [Option.some.injEq] at hk; omega)); have HX8 := Lib.hid (HX7.out.save (save_grownB hg8) hq1); clear hc8 hg8 x0 x1 x2 x3 x4 x5; obtain ⟨x0, x1, x2, x3, x4, x5⟩ := HX8.out; simp only [Nat.zero_add] at x1 x2 x3 x4 x5) | (at_mapUpdate; refine wpList_put_map _ rfl _ _ _ 57 rfl Try.underlying57 intKind u32Elem allI allI_mem allI_len (w1.heap.size + 1) on HO8.out rfl x.d x.im HV.out HXi.out rfl rfl ?_; intro w9 ho9 hg9; have HO9 := Lib.hid ho9; have HC9 := Lib.hid (HC8.out.kept hg9 (by simp)); have HL9 := Lib.hid (HL8.out.grown hg9 HL8.out.size (fun k hk => by simp only [Option.some.injEq] at hk; omega)); clear ho9 hg9))
          go_roundw
          case rel => exact ⟨i + 1, by omega, by go_num, _, _, HC9.out, HO9.out, HE.out, HL9.out⟩
          case measure => simp [intOf]; omega
        · have HE := Lib.hid (HN.out.no HXX.out hd (y := y + 1) (by have := HY.out; omega) (bound' := 1000 * b + 2 * ((i + 1 : Nat) : Int)) (by omega))
          have HY1 : Hid (numN (updF cn x.d y x.d) = y) := Lib.hid (by rw [numN_upd, if_pos rfl])
          have HU : Hid (∀ z, updF (updF cn x.d y) x.d z = updF cn x.d z) := Lib.hid fun z => by funext r; unfold updF; split <;> rfl
          go_wp2_with (first | (at_lookup; refine wpList_get_mapI w7 rfl _ _ 56 rfl Try.underlying56 w1.heap.size cn HM5.out rfl x.d HV.out rfl ?_; rw [HY0.out]) | (at_mapUpdate; refine wpList_put_map _ rfl _ _ _ 56 rfl Try.underlying56 intKind intElem allI allI_mem allI_len w1.heap.size cn HM5.out rfl x.d y HV.out (And.intro (by omega) (by omega)) rfl rfl ?_; intro w8 hc8 hg8; have HC8 := Lib.hid hc8; have HO8 := Lib.hid (HM6.out.kept hg8 (by simp)); have HL8 := Lib.hid (HLo7.out.grown hg8 HLo7.out.size (fun k hk => by simp only [Option.some.injEq] at hk; omega)); have HX8 := Lib.hid (HX7.out.save (save_grownB hg8) hq1); clear hc8 hg8 x0 x1 x2 x3 x4 x5; obtain ⟨x0, x1, x2, x3, x4, x5⟩ := HX8.out; simp only [Nat.zero_add] at x1 x2 x3 x4 x5) | (at_lookup; refine wpList_get_mapI w8 rfl _ _ 56 rfl Try.underlying56 w1.heap.size _ HC8.out rfl x.d HV.out rfl ?_; rw [HY1.out]) | (at_mapUpdate; refine wpList_put_map w8 rfl _ _ _ 56 rfl Try.underlying56 intKind intElem allI allI_mem allI_len w1.heap.size _ HC8.out rfl x.d (y + 1) HV.out (And.intro (by omega) (by omega)) rfl rfl ?_; intro w9 hc9 hg9; rw [HU.out] at hc9; have HC9 := Lib.hid hc9; have HO9 := Lib.hid (HO8.out.kept hg9 (by simp)); have HL9 := Lib.hid (HL8.out.grown hg9 HL8.out.size (fun k hk => by simp only [Option.some.injEq] at hk; omega)); clear hc9 hg9))
          go_roundw
          case rel => exact ⟨i + 1, by omega, by go_num, _, _, HC9.out, HO9.out, HE.out, HL9.out⟩
          case measure => simp [intOf]; omega
end Go.Proofs.Ytjfpaelmcepidaa.PK
namespace Go.Proofs.Ytjfpaelmcepidaa.PK
open Go.RowKit Go.Maps

/-- The seats ahead of register number t of a list. -/
structure SI (CC : Int × Int → Prop) (f0 : Int → Option Nat) (k : Nat) (zs : List Int) (t places : Nat) (c f : Int → Option Int) (nm : Int → Option Nat) : Prop where
  dom : ∀ r, r ∈ zs.take t ↔ ((c r).isSome = true ∨ (f r).isSome = true ∨ (nm r).isSome = true)
  col : ∀ r x, c r = some x → 0 ≤ x ∧ x < k
  cl : ∀ u v x, CC (u, v) → c u = some x → c v = some x → False
  frm : ∀ r p, f r = some p → 0 ≤ p ∧ p < (places : Int)
  inj : ∀ r r' p, f r = some p → f r' = some p → r = r'
  num : ∀ r n, nm r = some n → f0 r = some n
  one : ∀ r n, nm r = some n → c r = none ∧ f r = none
  le : places ≤ t
theorem SI.start (CC : Int × Int → Prop) (f0 : Int → Option Nat) (k : Nat) (zs : List Int) : SI CC f0 k zs 0 0 (fun _ => none) (fun _ => none) (fun _ => none) :=
  ⟨fun r => by simp, fun _ _ h => (by cases h), fun _ _ _ _ h => (by cases h), fun _ _ h => (by cases h), fun _ _ _ h => (by cases h), fun _ _ h => (by cases h), fun _ _ h => (by cases h), Nat.le_refl _⟩
section
variable {CC : Int × Int → Prop} {f0 : Int → Option Nat} {k : Nat} {zs : List Int} {t places : Nat} {c f : Int → Option Int} {nm : Int → Option Nat}
theorem fresh_at (hn : zs.Nodup) (ht : t < zs.length) : zs.getD t 0 ∉ zs.take t := by
  intro h
  obtain ⟨j, hj, e⟩ := List.getElem_of_mem h
  rw [List.getElem_take, List.getD_eq_getElem?_getD, List.getElem?_eq_getElem ht] at e
  have hj2 : j < t := by rw [List.length_take] at hj; omega
  exact List.pairwise_iff_getElem.1 hn j t (by omega) ht hj2 e
theorem SI.fresh (h : SI CC f0 k zs t places c f nm) (hn : zs.Nodup) (ht : t < zs.length) : c (zs.getD t 0) = none ∧ f (zs.getD t 0) = none ∧ nm (zs.getD t 0) = none := by
  have := fresh_at hn ht
  rw [h.dom] at this
  refine ⟨?_, ?_, ?_⟩
  · cases e : c (zs.getD t 0)
    · rfl
    · exact absurd (.inl (by rw [e]; rfl)) this
  · cases e : f (zs.getD t 0)
    · rfl
    · exact absurd (.inr (.inl (by rw [e]; rfl))) this
  · cases e : nm (zs.getD t 0)
    · rfl
    · exact absurd (.inr (.inr (by rw [e]; rfl))) this
theorem updF_at {α β : Type} [DecidableEq α] (f : α → Option β) (a : α) (y : β) : updF f a y a = some y := by unfold updF; rw [if_pos rfl]
theorem updF_ne {α β : Type} [DecidableEq α] (f : α → Option β) {a x : α} (y : β) (h : x ≠ a) : updF f a y x = f x := by unfold updF; rw [if_neg h]
theorem SI.seat1 (h : SI CC f0 k zs t places c f nm) (hn : zs.Nodup) (ht : t < zs.length) (hlt : ∀ p, CC p → p.1 < p.2) {x : Nat} (hx : x < k) (hfree : ∀ o, c o = some (x : Int) → ¬ CC (min (zs.getD t 0) o, max (zs.getD t 0) o)) : SI CC f0 k zs (t + 1) places (updF c (zs.getD t 0) (x : Int)) f nm := by
  obtain ⟨f1, f2, f3⟩ := h.fresh hn ht
  generalize hr : zs.getD t 0 = r at *
  refine ⟨fun a => ?_, fun a y hy => ?_, fun u v y hC hu hv => ?_, h.frm, h.inj, h.num, fun a n ha => ?_, by have := h.le; omega⟩
  · rw [take_snoc ht, hr, h.dom, updF_some]
    constructor
    · rintro ((h | h) | h)
      · exact .inl (.inr h)
      · exact .inr h
      · exact .inl (.inl h)
    · rintro ((h | h) | h)
      · exact .inr h
      · exact .inl (.inl h)
      · exact .inl (.inr h)
  · by_cases e : a = r
    · subst e; rw [updF_at] at hy; cases hy; omega
    · rw [updF_ne _ _ e] at hy; exact h.col a y hy
  · have hl := hlt _ hC
    simp only at hl
    by_cases e : u = r
    · subst e
      rw [updF_at] at hu; cases hu
      rw [updF_ne _ _ (by omega)] at hv
      refine hfree v hv ?_
      rw [show min u v = u by omega, show max u v = v by omega]; exact hC
    · rw [updF_ne _ _ e] at hu
      by_cases e2 : v = r
      · subst e2
        rw [updF_at] at hv; cases hv
        refine hfree u hu ?_
        rw [show min v u = u by omega, show max v u = v by omega]; exact hC
      · rw [updF_ne _ _ e2] at hv
        exact h.cl u v y hC hu hv
  · have := h.one a n ha
    by_cases e : a = r
    · subst e; rw [f3] at ha; cases ha
    · rw [updF_ne _ _ e]; exact this
theorem SI.seat2 (h : SI CC f0 k zs t places c f nm) (hn : zs.Nodup) (ht : t < zs.length) {n : Nat} (hx : f0 (zs.getD t 0) = some n) : SI CC f0 k zs (t + 1) places c f (updF nm (zs.getD t 0) n) := by
  obtain ⟨f1, f2, f3⟩ := h.fresh hn ht
  generalize hr : zs.getD t 0 = r at *
  refine ⟨fun a => ?_, h.col, h.cl, h.frm, h.inj, fun a y hy => ?_, fun a y hy => ?_, by have := h.le; omega⟩
  · rw [take_snoc ht, hr, h.dom, updF_some]
    constructor
    · rintro ((h | h | h) | h)
      · exact .inl h
      · exact .inr (.inl h)
      · exact .inr (.inr (.inr h))
      · exact .inr (.inr (.inl h))
    · rintro (h | h | h | h)
      · exact .inl (.inl h)
      · exact .inl (.inr (.inl h))
      · exact .inr h
      · exact .inl (.inr (.inr h))
  · by_cases e : a = r
    · subst e; rw [updF_at] at hy; rw [← hy]; exact hx
    · rw [updF_ne _ _ e] at hy; exact h.num a y hy
  · by_cases e : a = r
    · subst e; exact ⟨f1, f2⟩
    · rw [updF_ne _ _ e] at hy; exact h.one a y hy
theorem SI.seat3 (h : SI CC f0 k zs t places c f nm) (hn : zs.Nodup) (ht : t < zs.length) : SI CC f0 k zs (t + 1) (places + 1) c (updF f (zs.getD t 0) (places : Int)) nm := by
  obtain ⟨f1, f2, f3⟩ := h.fresh hn ht
  generalize hr : zs.getD t 0 = r at *
  refine ⟨fun a => ?_, h.col, h.cl, fun a y hy => ?_, fun a a' y hy hy' => ?_, h.num, fun a y hy => ?_, by have := h.le; omega⟩
  · rw [take_snoc ht, hr, h.dom, updF_some]
    constructor
    · rintro ((h | h | h) | h)
      · exact .inl h
      · exact .inr (.inl (.inr h))
      · exact .inr (.inr h)
      · exact .inr (.inl (.inl h))
    · rintro (h | (h | h) | h)
      · exact .inl (.inl h)
      · exact .inr h
      · exact .inl (.inr (.inl h))
      · exact .inl (.inr (.inr h))
  · by_cases e : a = r
    · subst e; rw [updF_at] at hy; cases hy; omega
    · rw [updF_ne _ _ e] at hy; have := h.frm a y hy; omega
  · by_cases e : a = r
    · by_cases e2 : a' = r
      · rw [e, e2]
      · subst e; rw [updF_at] at hy; rw [updF_ne _ _ e2] at hy'; cases hy
        have := h.frm a' _ hy'; omega
    · rw [updF_ne _ _ e] at hy
      by_cases e2 : a' = r
      · subst e2; rw [updF_at] at hy'; cases hy'
        have := h.frm a _ hy; omega
      · rw [updF_ne _ _ e2] at hy'
        exact h.inj a a' y hy hy'
  · by_cases e : a = r
    · subst e; rw [f3] at hy; cases hy
    · have := h.one a y hy
      exact ⟨this.1, by rw [updF_ne _ _ e]; exact this.2⟩
/-- All registers seated. -/
theorem SI.seats {ls : List (List Cd)} {inn : Int → Int → Bool} (h : SI (Clashes ls inn) f0 k zs zs.length places c f nm) (hz : ∀ r, Ment ls ls.length 0 r → r ∈ zs) (hN : NumOk ls inn f0) (hl : zs.length ≤ 200) : SeatOk ⟨c, f, nm, k⟩ ls inn places where
  seated b x r hx hu h1 h2 := by
    have hm : Ment ls ls.length 0 r := by
      obtain ⟨j, hj, rfl⟩ := List.getElem_of_mem hx
      have hb : b < ls.length := by
        by_cases c : b < ls.length
        · exact c
        · exfalso
          unfold atB at hj
          rw [List.getD_eq_getElem?_getD, List.getElem?_eq_none (by omega)] at hj
          exact absurd hj (Nat.not_lt_zero _)
      exact ⟨b, j, hj, .inl hb, by rw [atC_get hj]; exact hu⟩
    have hd := (h.dom r).1 (by rw [List.take_length]; exact hz r hm)
    rcases hd with hd | hd | hd
    · rw [show c r = none from h1] at hd; cases hd
    · exact Option.isSome_iff_exists.1 hd
    · rw [show nm r = none from h2] at hd; cases hd
  colR := h.col
  clash := h.cl
  frmR := h.frm
  frmI := h.inj
  num r n hr := ⟨(hN r n (h.num r n hr)).1, (hN r n (h.num r n hr)).2.1⟩
  one := h.one
  big := by have := h.le; omega
  numU r n hr := (hN r n (h.num r n hr)).2.2
end
/-- What the range over the colors has found. -/
def takenS (CC : Int × Int → Prop) (c : Int → Option Int) (r : Int) (os : List Int) (x : Int) : Prop := ∃ o ∈ os, c o = some x ∧ CC (min r o, max r o)
/-- The order of seating: registers that are read or written, each once. -/
def Ord (P : Int → Prop) (i : Nat) (zs : List Int) : Prop := zs.Nodup ∧ zs.length ≤ i ∧ ∀ r : Int, r ∈ zs ↔ (0 ≤ r ∧ r < (i : Int) ∧ P r)
theorem Ord.start (P : Int → Prop) : Ord P 0 [] := ⟨List.nodup_nil, Nat.le_refl _, fun r => ⟨fun h => (by cases h), fun h => by omega⟩⟩
theorem Ord.yes {P : Int → Prop} {i : Nat} {zs : List Int} (h : Ord P i zs) (hp : P (i : Int)) : Ord P (i + 1) (zs ++ [(i : Int)]) := by
  obtain ⟨h1, h2, h3⟩ := h
  refine ⟨?_, by simp; omega, fun r => ?_⟩
  · rw [List.nodup_append]
    refine ⟨h1, by simp, fun a ha b hb => ?_⟩
    have := (h3 a).1 ha
    rw [List.mem_singleton] at hb
    omega
  · rw [List.mem_append, List.mem_singleton, h3]
    constructor
    · rintro (⟨a, b, c⟩ | rfl)
      · exact ⟨a, by omega, c⟩
      · exact ⟨by omega, by omega, hp⟩
    · rintro ⟨a, b, c⟩
      by_cases e : r = (i : Int)
      · exact .inr e
      · exact .inl ⟨a, by omega, c⟩
theorem Ord.no {P : Int → Prop} {i : Nat} {zs : List Int} (h : Ord P i zs) (hp : ¬ P (i : Int)) : Ord P (i + 1) zs := by
  obtain ⟨h1, h2, h3⟩ := h
  refine ⟨h1, by omega, fun r => ?_⟩
  rw [h3]
  constructor
  · rintro ⟨a, b, c⟩; exact ⟨a, by omega, c⟩
  · rintro ⟨a, b, c⟩
    by_cases e : r = (i : Int)
    · subst e; exact absurd c hp
    · exact ⟨a, by omega, c⟩
theorem Ord.perm {P : Int → Prop} {i : Nat} {zs zs' : List Int} (h : Ord P i zs) (hp : zs'.Perm zs) : Ord P i zs' :=
  ⟨hp.nodup_iff.2 h.1, by rw [hp.length_eq]; exact h.2.1, fun r => (hp.mem_iff).trans (h.2.2 r)⟩
theorem Ment.inR {ls : List (List Cd)} {regs : Int} {r : Int} (hc : ∀ k i, k < ls.length → i < (atB ls k).length → isCodeB (atC (atB ls k) i) regs ls.length = true) (h : Ment ls ls.length 0 r) : 0 ≤ r ∧ r < regs := by
  obtain ⟨b, i, hi, _, ht⟩ := h
  have hb : b < ls.length := by
    by_cases c : b < ls.length
    · exact c
    · exfalso
      unfold atB at hi
      rw [List.getD_eq_getElem?_getD, List.getElem?_eq_none (by omega)] at hi
      exact absurd hi (Nat.not_lt_zero _)
  have hx := hc b i hb hi
  rcases ht with ht | ht
  · exact usesL_in hx r (use_mem.2 ht)
  · unfold defB at ht
    rw [Bool.and_eq_true] at ht
    have := (code_parts hx).2.1 ht.1
    rw [← of_decide_eq_true ht.2]; exact this
set_option maxRecDepth 100000 in
set_option maxHeartbeats 1000000 in
/-- The closure that compares by weight. -/
theorem cmpW_any (w0 : World) (g Bw q rn : Nat) (W : Nat → Nat) (zs : List Int) (hc : w0.cell? ⟨Bw, 0, none⟩ = some (.slice (some ⟨q, 0, none⟩) rn rn)) (hW : TRow w0 q rn 3 (fun r => .int .i64 (W r : Nat))) (hWb : ∀ r, r < rn → W r ≤ 1000000) (hB : Bw ≠ g) (hq : q ≠ g) (hz : ∀ x ∈ zs, 0 ≤ x ∧ x < (rn : Int)) :
    CmpS w0 g Bw zs fun x y => (W y.toNat : Int) - (W x.toNat : Int) := by
  intro x hx y hy wr hs
  have c0 := hs.cell hB hc
  obtain ⟨a, ha⟩ : ∃ a : Nat, x = a := ⟨x.toNat, by have := hz x hx; omega⟩
  obtain ⟨b, hb⟩ : ∃ b : Nat, y = b := ⟨y.toNat, by have := hz y hy; omega⟩
  have ha2 : a < rn := by have := hz x hx; omega
  have hb2 : b < rn := by have := hz y hy; omega
  have c1 := hs.cell hq (TRow.cell hW ha2)
  have c2 := hs.cell hq (TRow.cell hW hb2)
  have b1 := hWb a ha2
  have b2 := hWb b hb2
  subst ha hb
  show Calls _ _ _ _ fun e w' => e = .returned (.int .i64 ((W (b : Int).toNat : Int) - (W (a : Int).toNat : Int))) ∧ ∃ m, w' = wr.drewN m
  rw [Int.toNat_natCast, Int.toNat_natCast]
  generalize W a = p at *
  generalize W b = p2 at *
  clear hc hW hWb hz hs hx hy
  have hai : (a : Int) < rn := by omega
  have hbi : (b : Int) < rn := by omega
  go_enter Try.func52, Try.ntmps52
  go_wp2_with fail
  go_quiet (fail)
  go_wp2_with fail
  go_ret
  exact ⟨rfl, _, rfl⟩
end Go.Proofs.Ytjfpaelmcepidaa.PK
namespace Go.Proofs.Ytjfpaelmcepidaa.PK
open Go.RowKit Go.Maps

/-! ### A block as it was -/
theorem MapAt.same {α β : Type} {P : Program} {kt et : TypeId} {key : α → Lit} {vl : β → Lit} {V : α → Prop} {w w' : World} {b : Nat} {f : α → Option β} (h : MapAt P kt et key vl V w b f) (he : w'.heap[b]? = w.heap[b]?) : MapAt P kt et key vl V w' b f := by
  obtain ⟨D, l, ⟨es, clock, hb, F, hs, hD⟩, hM⟩ := h
  exact ⟨D, l, ⟨es, clock, he.trans hb, F, hs, hD⟩, hM⟩
theorem MapN.same {α β : Type} {P : Program} {kt et : TypeId} {key : α → Lit} {vl : β → Lit} {V : α → Prop} {w w' : World} {b n : Nat} {f : α → Option β} (h : MapN P kt et key vl V w b n f) (he : w'.heap[b]? = w.heap[b]?) : MapN P kt et key vl V w' b n f := by
  obtain ⟨D, l, ⟨es, clock, hb, F, hs, hD⟩, hM⟩ := h
  exact ⟨D, l, ⟨es, clock, he.trans hb, F, hs, hD⟩, hM⟩
theorem SetP.same {w w' : World} {b : Nat} {S : Int × Int → Prop} (h : SetP w b S) (he : w'.heap[b]? = w.heap[b]?) : SetP w' b S := by
  obtain ⟨f, h1, h2⟩ := h
  exact ⟨f, h1.same he, h2⟩
/-- All but three blocks as they were. -/
structure But3 (a b c : Nat) (w w' : World) : Prop where
  os : w'.os = w.os
  tape : w'.tape = w.tape
  output : w'.output = w.output
  size : w.heap.size ≤ w'.heap.size
  block : ∀ k, k < w.heap.size → k ≠ a → k ≠ b → k ≠ c → w'.heap[k]? = w.heap[k]?
theorem But3.refl (a b c : Nat) (w : World) : But3 a b c w w := ⟨rfl, rfl, rfl, Nat.le_refl _, fun _ _ _ _ _ => rfl⟩
theorem But3.below {a b c : Nat} {w w' w'' : World} (h : But3 a b c w w') (g : Below w'.heap.size w' w'') : But3 a b c w w'' :=
  ⟨g.os.trans h.os, g.tape.trans h.tape, g.output.trans h.output, Nat.le_trans h.size g.size, fun k h1 h2 h3 h4 => (g.block k (Nat.lt_of_lt_of_le h1 h.size)).trans (h.block k h1 h2 h3 h4)⟩
theorem But3.grown {a b c q : Nat} {w w' w'' : World} (h : But3 a b c w w') (g : w'.grownBy w'' (some q)) (hq : q = a ∨ q = b ∨ q = c) : But3 a b c w w'' :=
  ⟨g.os.trans h.os, g.tape.trans h.tape, g.output.trans h.output, Nat.le_trans h.size g.size, fun k h1 h2 h3 h4 => (g.block k (Nat.lt_of_lt_of_le h1 h.size) (by simp only [Option.some.injEq, ne_eq]; omega)).trans (h.block k h1 h2 h3 h4)⟩
theorem But3.to {a b c : Nat} {w w' : World} (h : But3 a b c w w') {B : Nat} (hB : B ≤ w.heap.size) (ha : B ≤ a) (hb : B ≤ b) (hc : B ≤ c) : Below B w w' :=
  ⟨h.os, h.tape, h.output, h.size, fun k hk => h.block k (by omega) (by omega) (by omega) (by omega)⟩
theorem cell_same {w w' : World} {b off : Nat} {v : Value} (h : w.cell? ⟨b, off, none⟩ = some v) (he : w'.heap[b]? = w.heap[b]?) : w'.cell? ⟨b, off, none⟩ = some v := by
  rw [← h]; unfold World.cell?; rw [he]
/-- Seats in memory. -/
structure SeatsIn (w : World) (v : Value) (s : Seats) (places : Nat) : Prop where
  is : ∃ a b c, v = .agg #[.map (some a), .map (some b), .map (some c), .int .i64 (s.k : Nat)] ∧ MapAt Try.prog 3 3 keyI litI KV w a s.col ∧ MapN Try.prog 3 3 keyI litI KV w b places s.frm ∧ MapAt Try.prog 3 65 keyI litU KV w c s.num
theorem elimB (o : Option Unit) : o.elim (Value.bool false) valT = .bool o.isSome := by cases o <;> rfl
theorem wpList_get_setI {ops : Array Oper} {rest : List Oper} {o : Oper} {a : Act} {Q : Exit → Act → World → Prop} (w : World) (hg : o.guard = none) (m x : Operand) (t : TypeId) (hop : o.op = Op.lookup t m x false) (ht : Try.prog.underlying t = some (.map 3 4)) (b : Nat) (f : Int → Option Unit) (h : MapAt Try.prog 3 4 keyI litT KV w b f)
    (hm : a.eval m = .map (some b)) (x0 : Int) (hV : KV x0) (hx : a.eval x = .int .i64 x0) {bb : Bool} (hb : (f x0).isSome = bb) (hK : wpList Try.prog ops Q rest (a.put o.dst (.bool bb)) w) : wpList Try.prog ops Q (o :: rest) a w :=
  wpList_get_map w hg m x t hop ht intKind boolKind zeroB b f h hm x0 hV hx (by rw [elimB, hb]; exact hK)
theorem wpList_get_setP {ops : Array Oper} {rest : List Oper} {o : Oper} {a : Act} {Q : Exit → Act → World → Prop} (w : World) (hg : o.guard = none) (m x : Operand) (t : TypeId) (hop : o.op = Op.lookup t m x false) (ht : Try.prog.underlying t = some (.map 79 4)) (b : Nat) (f : Int × Int → Option Unit) (h : MapAt Try.prog 79 4 keyP litT PV w b f)
    (hm : a.eval m = .map (some b)) (x0 : Int × Int) (hV : PV x0) (hx : a.eval x = valP x0) {bb : Bool} (hb : (f x0).isSome = bb) (hK : wpList Try.prog ops Q rest (a.put o.dst (.bool bb)) w) : wpList Try.prog ops Q (o :: rest) a w :=
  wpList_get_map w hg m x t hop ht pairKind boolKind zeroB b f h hm x0 hV hx (by rw [elimB, hb]; exact hK)
theorem wpList_getok_mapU {ops : Array Oper} {rest : List Oper} {o : Oper} {a : Act} {Q : Exit → Act → World → Prop} (w : World) (hg : o.guard = none) (m x : Operand) (t : TypeId) (hop : o.op = Op.lookup t m x true) (ht : Try.prog.underlying t = some (.map 3 65)) (b : Nat) (f : Int → Option Nat) (h : MapAt Try.prog 3 65 keyI litU KV w b f)
    (hm : a.eval m = .map (some b)) (x0 : Int) (hV : KV x0) (hx : a.eval x = .int .i64 x0) {y : Option Nat} (hy : f x0 = y) (hK : wpList Try.prog ops Q rest (a.put o.dst (.tuple #[.int .u32 ((y.getD 0 : Nat) : Int), .bool y.isSome])) w) : wpList Try.prog ops Q (o :: rest) a w :=
  wpList_getok_map w hg m x t hop ht intKind u32Elem zeroU b f h hm x0 hV hx (by rw [hy]; cases y <;> exact hK)
theorem wpList_getok_mapI {ops : Array Oper} {rest : List Oper} {o : Oper} {a : Act} {Q : Exit → Act → World → Prop} (w : World) (hg : o.guard = none) (m x : Operand) (t : TypeId) (hop : o.op = Op.lookup t m x true) (ht : Try.prog.underlying t = some (.map 3 3)) (b : Nat) (f : Int → Option Int) (h : MapAt Try.prog 3 3 keyI litI KV w b f)
    (hm : a.eval m = .map (some b)) (x0 : Int) (hV : KV x0) (hx : a.eval x = .int .i64 x0) {y : Option Int} (hy : f x0 = y) (hK : wpList Try.prog ops Q rest (a.put o.dst (.tuple #[.int .i64 (y.getD 0), .bool y.isSome])) w) : wpList Try.prog ops Q (o :: rest) a w :=
  wpList_getok_map w hg m x t hop ht intKind intElem zeroI b f h hm x0 hV hx (by rw [hy]; cases y <;> exact hK)
theorem taken_put {CC : Int × Int → Prop} {c : Int → Option Int} {r z x : Int} {os : List Int} (h : CC (min r z, max r z)) (hc : c z = some x) (y : Int) : (y = x ∨ takenS CC c r os y) ↔ takenS CC c r (os ++ [z]) y := by
  unfold takenS
  constructor
  · rintro (rfl | ⟨o, h1, h2, h3⟩)
    · exact ⟨z, by simp, hc, h⟩
    · exact ⟨o, List.mem_append_left _ h1, h2, h3⟩
  · rintro ⟨o, h1, h2, h3⟩
    rcases List.mem_append.1 h1 with h1 | h1
    · exact .inr ⟨o, h1, h2, h3⟩
    · obtain rfl : o = z := by simpa using h1
      rw [hc] at h2; cases h2; exact .inl rfl
theorem taken_skip {CC : Int × Int → Prop} {c : Int → Option Int} {r z : Int} {os : List Int} (h : ¬ CC (min r z, max r z)) (y : Int) : takenS CC c r os y ↔ takenS CC c r (os ++ [z]) y := by
  unfold takenS
  constructor
  · rintro ⟨o, h1, h2, h3⟩; exact ⟨o, List.mem_append_left _ h1, h2, h3⟩
  · rintro ⟨o, h1, h2, h3⟩
    rcases List.mem_append.1 h1 with h1 | h1
    · exact ⟨o, h1, h2, h3⟩
    · obtain rfl : o = z := by simpa using h1
      exact absurd h3 h
/-- What the loop that gives the seats never changes. -/
structure SBase (w : World) (r0 ma mb mc sb mo mn k : Nat) (oa : Option Addr) (zs : List Int) (CC : Int × Int → Prop) (f0 : Int → Option Nat) : Prop where
  s0 : w.cell? ⟨sb, 0, none⟩ = some (.map (some ma))
  s1 : w.cell? ⟨sb, 1, none⟩ = some (.map (some mb))
  s2 : w.cell? ⟨sb, 2, none⟩ = some (.map (some mc))
  s3 : w.cell? ⟨sb, 3, none⟩ = some (.int .i64 (k : Int))
  res : w.heap[r0]? = some (.cells #[.map none, .map none, .map none, .int .i64 0] 59 (0, 0))
  cl : SetP w mo CC
  cst : MapAt Try.prog 3 65 keyI litU KV w mn f0
  row : IntsIn w oa zs
  ord : r0 < ma ∧ ma < mb ∧ mb < mc ∧ mc < sb ∧ sb < mo ∧ sb < mn
section
variable {w w' : World} {r0 ma mb mc sb mo mn k : Nat} {oa : Option Addr} {zs : List Int} {CC : Int × Int → Prop} {f0 : Int → Option Nat}
theorem SBase.below (h : SBase w r0 ma mb mc sb mo mn k oa zs CC f0) (hb : Below w.heap.size w w') : SBase w' r0 ma mb mc sb mo mn k oa zs CC f0 :=
  ⟨keep h.s0 hb, keep h.s1 hb, keep h.s2 hb, keep h.s3 hb, (hb.block r0 (lt_of_block h.res)).trans h.res, h.cl.below hb, h.cst.below hb, h.row.below hb, h.ord⟩
theorem SBase.grown {q : Nat} (h : SBase w r0 ma mb mc sb mo mn k oa zs CC f0) (hg : w.grownBy w' (some q)) (hq : q = ma ∨ q = mb ∨ q = mc) (hne : ∀ b j v, w.cell? ⟨b, j, none⟩ = some v → b ≠ q) : SBase w' r0 ma mb mc sb mo mn k oa zs CC f0 := by
  have hs := save_grownB hg
  have ho := h.ord
  refine ⟨hs.cell (hne _ _ _ h.s0) h.s0, hs.cell (hne _ _ _ h.s1) h.s1, hs.cell (hne _ _ _ h.s2) h.s2, hs.cell (hne _ _ _ h.s3) h.s3, (hs.block r0 (lt_of_block h.res) (by omega)).trans h.res, h.cl.kept hg (by simp; omega), h.cst.kept hg (by simp; omega), fun j hj => ?_, ho⟩
  obtain ⟨b, off, e, hc⟩ := h.row j hj
  exact ⟨b, off, e, hs.cell (hne _ _ _ hc) hc⟩
end
/-- How things stand ahead of register number t. -/
def SeatRel (w12 : World) (n r0 ma mb mc sb mo mn k : Nat) (oa : Option Addr) (zs : List Int) (CC : Int × Int → Prop) (f0 : Int → Option Nat) (t : Nat) (wr : World) : Prop :=
  ∃ places c f nm, SI CC f0 k zs t places c f nm ∧ MapAt Try.prog 3 3 keyI litI KV wr ma c ∧ MapN Try.prog 3 3 keyI litI KV wr mb places f ∧ MapAt Try.prog 3 65 keyI litU KV wr mc nm ∧ SBase wr r0 ma mb mc sb mo mn k oa zs CC f0 ∧ Below n w12 wr
/-- Among the colors. -/
def TakenRel (wr : World) (ma mt rb : Nat) (CC : Int × Int → Prop) (c : Int → Option Int) (r : Int) (wx : World) : Prop :=
  ∃ (left : Lit → Bool) (cnt : Nat) (os : List Int), RangeAt Try.prog 3 3 keyI litI KV wx ma rb c left cnt ∧ CollS keyI c left os ∧ SetI wx mt (takenS CC c r os) ∧ Below wr.heap.size wr wx
theorem there_row4 {w : World} {b : Nat} {v0 v1 v2 v3 : Value} {t : TypeId} (h : w.heap[b]? = some (.cells #[v0, v1, v2, v3] t (0, 0))) : w.there b 0 4 := fun j hj => ⟨by
  rw [cell_of_row w b _ _ _ _ h]
  match j, hj with
  | 0, _ => rfl
  | 1, _ => rfl
  | 2, _ => rfl
  | 3, _ => rfl, frozen_of_row w b _ _ _ h⟩
theorem set_row4 {w : World} {b : Nat} {v0 v1 v2 v3 : Value} {t : TypeId} (h : w.heap[b]? = some (.cells #[v0, v1, v2, v3] t (0, 0))) (x0 x1 x2 x3 : Value) :
    (w.setCells b 0 [x0, x1, x2, x3]).heap[b]? = some (.cells #[x0, x1, x2, x3] t (0, 0)) :=
  heap_setCell_same _ b 3 _ t x3 (heap_setCell_same _ b 2 _ t x2 (heap_setCell_same _ b 1 _ t x1 (heap_setCell_same w b 0 _ t x0 h)))
theorem save_row4 (w : World) (b : Nat) (x0 x1 x2 x3 : Value) : Save b w (w.setCells b 0 [x0, x1, x2, x3]) := by
  have := (((Save.set b 0 w x0).trans (Save.set b 1 _ x1)).trans (Save.set b 2 _ x2)).trans (Save.set b 3 _ x3)
  exact this
theorem sizeS : (Try.prog.info? 59).map (·.size) = some 4 := by kernel_rfl
theorem oneS (a b c : Nat) (k : Int) : (#[.map (some a), .map (some b), .map (some c), .int .i64 k] : Array Value).all (·.oneCell') = true := by simp [Value.oneCell']
/-- The start of seat. -/
def seatW (w : World) (rn k : Nat) (bl : Option Addr) (len cap : Nat) : World :=
  ((((((w.alloc (.cells #[.int .i64 (rn : Int), .slice bl len cap] 24)).alloc (.cells #[.map none, .map none, .map none, .int .i64 0] 59)).alloc (.map #[] 0)).alloc (.map #[] 0)).alloc (.map #[] 0)).alloc
    (.cells #[.map (some (w.heap.size + 1 + 1)), .map (some (w.heap.size + 1 + 1 + 1)), .map (some (w.heap.size + 1 + 1 + 1 + 1)), .int .i64 (k : Int)] 59))
structure Start0 (w W : World) (n r0 ma mb mc sb rn k : Nat) (bl : Option Addr) (len cap : Nat) : Prop where
  p0 : W.cell? ⟨n, 0, none⟩ = some (.int .i64 (rn : Int))
  p1 : W.cell? ⟨n, 1, none⟩ = some (.slice bl len cap)
  s0 : W.cell? ⟨sb, 0, none⟩ = some (.map (some ma))
  s1 : W.cell? ⟨sb, 1, none⟩ = some (.map (some mb))
  s2 : W.cell? ⟨sb, 2, none⟩ = some (.map (some mc))
  s3 : W.cell? ⟨sb, 3, none⟩ = some (.int .i64 (k : Int))
  res : W.heap[r0]? = some (.cells #[.map none, .map none, .map none, .int .i64 0] 59 (0, 0))
  mA : MapAt Try.prog 3 3 keyI litI KV W ma (fun _ => (none : Option Int))
  mB : MapN Try.prog 3 3 keyI litI KV W mb 0 (fun _ => (none : Option Int))
  mC : MapAt Try.prog 3 65 keyI litU KV W mc (fun _ => (none : Option Nat))
  low : Below n w W
  ord : n < r0 ∧ r0 < ma ∧ ma < mb ∧ mb < mc ∧ mc < sb ∧ sb < W.heap.size ∧ n = w.heap.size
theorem start0 (w : World) (rn k : Nat) (bl : Option Addr) (len cap : Nat) : Start0 w (seatW w rn k bl len cap) w.heap.size (w.heap.size + 1) (w.heap.size + 1 + 1) (w.heap.size + 1 + 1 + 1) (w.heap.size + 1 + 1 + 1 + 1) (w.heap.size + 1 + 1 + 1 + 1 + 1) rn k bl len cap where
  p0 := by simp [seatW, go_sem]
  p1 := by simp [seatW, go_sem]
  s0 := by simp [seatW, go_sem]
  s1 := by simp [seatW, go_sem]
  s2 := by simp [seatW, go_sem]
  s3 := by simp [seatW, go_sem]
  res := by
    unfold seatW
    simp only [World.alloc]
    rw [Array.getElem?_push_lt (by simp), Array.getElem_push_lt (by simp), Array.getElem_push_lt (by simp), Array.getElem_push_lt (by simp)]
    simp [Array.getElem_push]
  mA := by
    unfold seatW
    have := (((MapAt.made Try.prog 3 3 keyI litI KV (β := Int) ((w.alloc (.cells #[.int .i64 (rn : Int), .slice bl len cap] 24)).alloc (.cells #[.map none, .map none, .map none, .int .i64 0] 59))).alloc (.map #[] 0)).alloc (.map #[] 0)).alloc (.cells #[.map (some (w.heap.size + 1 + 1)), .map (some (w.heap.size + 1 + 1 + 1)), .map (some (w.heap.size + 1 + 1 + 1 + 1)), .int .i64 (k : Int)] 59)
    simpa using this
  mB := by
    unfold seatW
    have := ((MapN.made Try.prog 3 3 keyI litI KV (β := Int) (((w.alloc (.cells #[.int .i64 (rn : Int), .slice bl len cap] 24)).alloc (.cells #[.map none, .map none, .map none, .int .i64 0] 59)).alloc (.map #[] 0))).kept (World.grownBy_alloc _ (.map #[] 0) none) (by simp)).kept (World.grownBy_alloc _ (.cells #[.map (some (w.heap.size + 1 + 1)), .map (some (w.heap.size + 1 + 1 + 1)), .map (some (w.heap.size + 1 + 1 + 1 + 1)), .int .i64 (k : Int)] 59) none) (by simp)
    simpa using this
  mC := by
    unfold seatW
    have := (MapAt.made Try.prog 3 65 keyI litU KV (β := Nat) ((((w.alloc (.cells #[.int .i64 (rn : Int), .slice bl len cap] 24)).alloc (.cells #[.map none, .map none, .map none, .int .i64 0] 59)).alloc (.map #[] 0)).alloc (.map #[] 0))).alloc (.cells #[.map (some (w.heap.size + 1 + 1)), .map (some (w.heap.size + 1 + 1 + 1)), .map (some (w.heap.size + 1 + 1 + 1 + 1)), .int .i64 (k : Int)] 59)
    simpa using this
  low := ((((((Below.refl _ _).alloc (Nat.le_refl _) _).alloc (by simp) _).alloc (by simp; omega) _).alloc (by simp; omega) _).alloc (by simp; omega) _).alloc (by simp; omega) _
  ord := by
    have : (seatW w rn k bl len cap).heap.size = w.heap.size + 6 := by simp [seatW]
    omega
def SeatPost (w : World) (ls : List (List Cd)) (L : List (List Int)) (k : Nat) (e : Ending) (w' : World) : Prop :=
  (∃ v s places, e = .returned v ∧ SeatsIn w' v s places ∧ s.k = k ∧ SeatOk s ls (tabI L) places) ∧ Below w.heap.size w w'
/-- The list of registers that are read or written. -/
def OrdRel (w4 : World) (P : Int → Prop) (v : Value) (i : Nat) (wr : World) : Prop := ∃ zs : List Int, Ord P i zs ∧ wr.ownsRow w4.heap.size 3 1 v zs.length (encI zs) ∧ Below w4.heap.size w4 wr
set_option maxRecDepth 100000 in
set_option maxHeartbeats 4000000 in
theorem seat_any (rn k : Nat) (ls : List (List Cd)) (L : List (List Int)) (bl : Option Addr) (cap : Nat) (w : World) (hv : progErrW rn ls = 0) (hlm : ∀ k, k < ls.length → (atB ls k).length ≤ 400) (him : ∀ b i, (atC (atB ls b) i).im < 4294967296) (hL : LiveOf ls rn L) (hin : BlkIn w bl ls) (hk : k ≤ 8) :
    Calls Try.prog 22 #[.agg #[.int .i64 (rn : Int), .slice bl ls.length cap], .int .i64 (k : Nat)] w (SeatPost w ls L k) := by
  obtain ⟨hbig, hcode, _⟩ := prog_partsW hv
  have hb2 : rn ≤ 200 ∧ 1 ≤ ls.length ∧ ls.length ≤ 400 := by unfold tooBigW at hbig; omega
  obtain ⟨i0, hi, hz0, hz1, hz2⟩ := info_parts Try.infoInt
  have HI := Lib.hid hin
  have HMk := Lib.hid (@run_makeMap Try.prog); have HCode := Lib.hid hcode
  have HWe := Lib.hid (fun u (h : BlkIn u bl ls) => weigh_any rn ls bl cap u hv hlm h)
  have HCl := Lib.hid (fun u (h : BlkIn u bl ls) => clashes_any rn ls L bl cap u hv (fun k hk => Nat.le_trans (hlm k hk) (by omega)) hL h)
  have HNu := Lib.hid (fun u (h : BlkIn u bl ls) => numbers_any rn ls L bl cap u hv hlm him hL h)
  clear hin hcode hlm hbig hv him hL
  have hmm := HMk.out
  go_enter Try.func22, Try.ntmps22
  go_upto_region 2 with (fail)
  clear hmm
  obtain ⟨w6, hw6⟩ : ∃ w6, seatW w rn k bl ls.length cap = w6 := ⟨_, rfl⟩
  have HS := start0 w rn k bl ls.length cap
  rw [hw6] at HS
  unfold seatW at hw6
  rw [hw6]
  clear hw6
  generalize w.heap.size + 1 + 1 + 1 + 1 + 1 = sb at *
  generalize w.heap.size + 1 + 1 + 1 + 1 = mc at *
  generalize w.heap.size + 1 + 1 + 1 = mb at *
  generalize w.heap.size + 1 + 1 = ma at *
  generalize w.heap.size + 1 = r0 at *
  obtain ⟨n, hn⟩ : ∃ n, w.heap.size = n := ⟨_, rfl⟩
  have HN := Lib.hid hn
  rw [hn] at HS ⊢
  clear hn
  have p0 := HS.p0; have p1 := HS.p1
  have HWc := Lib.hid (HWe.out w6 (by have := HI.out.below (w' := w6) (by rw [HN.out]; exact HS.low); exact this))
  have HSt := Lib.hid HS
  clear HS
  go_wp2_with fail
  refine HWc.out.mono ?_; rintro e w8 ⟨⟨q, rfl, hq, hW⟩, hb8⟩
  have HW8 := Lib.hid hW; have HB8 := Lib.hid hb8; have HQ8 := Lib.hid hq
  clear hW hb8 hq p0 p1
  go_upto_region 4 with (fail)
  have hb9 : Below w8.heap.size w8 (w8.alloc (.cells #[.slice (some ⟨q, 0, none⟩) rn rn] 43)) := (Below.refl _ _).alloc (Nat.le_refl _) _
  have HB9 := Lib.hid (HB8.out.trans (hb9.mono HB8.out.size))
  have HW9 := Lib.hid (HW8.out.below hb9)
  have hbox : (w8.alloc (.cells #[.slice (some ⟨q, 0, none⟩) rn rn] 43)).cell? ⟨w8.heap.size, 0, none⟩ = some (.slice (some ⟨q, 0, none⟩) rn rn) := by simp [go_sem]
  have HBox := Lib.hid hbox
  have HBq : Hid (q < w8.heap.size ∧ w6.heap.size ≤ w8.heap.size ∧ w8.heap.size < (w8.alloc (.cells #[.slice (some ⟨q, 0, none⟩) rn rn] 43)).heap.size) := Lib.hid ⟨HW8.out.lt, HB8.out.size, by simp⟩
  clear hb9
  generalize w8.alloc (.cells #[.slice (some ⟨q, 0, none⟩) rn rn] 43) = w9 at *
  generalize w8.heap.size = bw at *
  obtain ⟨W, hT, hWb, hWp⟩ := HW9.out
  have HT := Lib.hid hT; have HWb := Lib.hid hWb; have HWp := Lib.hid hWp
  clear hT hWb hWp
  go_wp2_with fail
  clear hbox
  obtain ⟨P, hP⟩ : ∃ P, Ment ls ls.length 0 = P := ⟨_, rfl⟩
  have HP := Lib.hid hP
  rw [hP] at HWp
  clear hP
  go_loopw [29, 7] (fun i v wr => ∃ j : Nat, j ≤ rn ∧ i = .int .i64 j ∧ OrdRel w9 P v j wr) (fun i _ _ => rn - (intOf i).toNat)
  case atStart => exact ⟨0, Nat.zero_le _, rfl, [], Ord.start P, owns_nil _ _ _ _, Below.refl _ _⟩
  case round =>
    obtain ⟨j, hj, rfl, zs, hord, ho, hlow⟩ := hrel
    by_cases hjl : j < rn
    · have hc := keep (TRow.cell HT.out hjl) hlow
      have hp := HWp.out j hjl
      have hwb := HWb.out j hjl
      have hji : (j : Int) < (rn : Int) := by omega
      have HOrd := Lib.hid hord; have HO := Lib.hid ho; have HLow := Lib.hid hlow
      have hzl := hord.2.1
      have hz9 : w9.heap.size ≤ wr.heap.size := hlow.size
      clear hord ho hlow
      generalize W j = wj at *
      by_cases hw0 : 0 < wj
      · have hwi : (0 : Int) < (wj : Int) := by omega
        have HOrd2 := Lib.hid (HOrd.out.yes (hp.1 hw0))
        obtain ⟨a0, c0, rfl⟩ := owns_shape HO.out
        clear hp
        go_wp2_with (at_builtin; refine wpList_append_own _ rfl _ _ 43 rfl w9.heap.size 3 i0 (.int .i64 0) 1 8 Try.underlying43 hi hz0 hz1 hz2 rfl (by decide) _ _ _ rfl (HO.out.alloc _) ⟨wr.heap.size, 0, none⟩ 1 1 [.int .i64 (j : Int)] rfl rfl (cell_one_at _ _ _) (one_int _) (by unfold maxLen; omega) (by omega) (by simp; omega) ?_; intro v' w5 hown5 hgrow _)
        have HO5 : Hid (w5.ownsRow w9.heap.size 3 1 v' (zs ++ [(j : Int)]).length (encI (zs ++ [(j : Int)]))) := Lib.hid (by rw [encI_snoc]; simpa using hown5)
        have hne5 : ∀ g, (Value.slice a0 zs.length c0).ownBlock = some g → w9.heap.size ≤ g := fun g hg => (owns_block HO.out hg).1
        have HB5 := Lib.hid ((HLow.out.alloc HLow.out.size _).grown hgrow (by have := HLow.out.size; simp; omega) (fun k hk => by have := hne5 k hk; omega))
        clear hown5 hgrow hne5
        go_roundw
        case rel => exact ⟨j + 1, by omega, by go_num, _, HOrd2.out, HO5.out, HB5.out⟩
        case measure => simp [intOf]; omega
      · have hwi : ¬ (0 : Int) < (wj : Int) := by omega
        have HOrd2 := Lib.hid (HOrd.out.no (fun h => hw0 (hp.2 h)))
        clear hp
        go_wp2_with fail
        go_roundw
        case rel => exact ⟨j + 1, by omega, by go_num, _, HOrd2.out, HO.out, HLow.out⟩
        case measure => simp [intOf]; omega
    · obtain rfl : j = rn := by omega
      have HOrd := Lib.hid hord; have HO := Lib.hid ho; have HLow := Lib.hid hlow
      clear hord ho hlow
      go_wp2_with fail
      have HSort := Lib.hid (sortStable_any w9.heap.size u7 zs bw _ wr HO.out (by have := HOrd.out.2.1; omega) fun g hg => cmpW_any wr g bw q j W zs (keep HBox.out HLow.out) (TRow.below HT.out HLow.out) HWb.out (by have := (owns_block HO.out hg).1; have := HBq.out; omega) (by have := (owns_block HO.out hg).1; have := HBq.out; omega) (fun x hx => by have := (HOrd.out.2.2 x).1 hx; exact ⟨this.1, this.2.1⟩))
      refine HSort.out.mono ?_; rintro e w10 ⟨rfl, ⟨zs2, ho2, hp2⟩, hb10⟩
      have HO2 := Lib.hid ho2
      have HOrd2 := Lib.hid (HOrd.out.perm hp2)
      have HB10 := Lib.hid (HB9.out.trans ((HLow.out.trans hb10).mono HB9.out.size))
      have HW10 := Lib.hid (HSt.out.low.trans (HB10.out.mono (by have := HSt.out.ord; omega)))
      have p0 := keep HSt.out.p0 HB10.out
      have p1 := keep HSt.out.p1 HB10.out
      have HI10 : Hid (BlkIn w10 bl ls) := Lib.hid (by have := HI.out.below (w' := w10) (by rw [HN.out]; exact HW10.out); exact this)
      have HZ9 : Hid (w6.heap.size ≤ w9.heap.size) := Lib.hid HB9.out.size
      have HCc := Lib.hid (HCl.out w10 HI10.out)
      clear ho2 hp2 hb10 HOrd HO HLow HSort
      go_wp2_with fail
      refine HCc.out.mono ?_; rintro e w11 ⟨⟨mo, rfl, hmo, hC⟩, hb11⟩
      have HC11 := Lib.hid hC; have HB11 := Lib.hid hb11; have HMo := Lib.hid hmo
      have q0 := keep p0 hb11; have q1 := keep p1 hb11
      have HNc := Lib.hid (HNu.out w11 (HI10.out.below hb11))
      clear hC hb11 hmo p0 p1
      go_wp2_with fail
      refine HNc.out.mono ?_; rintro e w12 ⟨⟨mn, f0, rfl, hmn, hM, hNk⟩, hb12⟩
      have HC12 := Lib.hid (HC11.out.below hb12); have HM12 := Lib.hid hM; have HNk := Lib.hid hNk; have HMn := Lib.hid hmn
      have HB12 := Lib.hid (HB10.out.trans ((HB11.out.mono HB10.out.size).trans (hb12.mono (by have := HB10.out.size; have := HB11.out.size; omega))))
      obtain ⟨oa, oc, rfl⟩ := owns_shape HO2.out
      have HRow := Lib.hid (((rowAt_owns HO2.out (q := 0) (by have := HBq.out; omega)).save (Save.of_below HB11.out)).save (Save.of_below hb12))
      clear q0 q1 hM hNk hmn hb12
      have HBase : Hid (SBase w12 r0 ma mb mc sb mo mn k oa zs2 (Clashes ls (tabI L)) f0) := Lib.hid ⟨keep HSt.out.s0 HB12.out, keep HSt.out.s1 HB12.out, keep HSt.out.s2 HB12.out, keep HSt.out.s3 HB12.out, (HB12.out.block r0 (lt_of_block HSt.out.res)).trans HSt.out.res, HC12.out, HM12.out, (by obtain ⟨a', c', e', hi', _⟩ := HRow.out; cases e'; exact hi'), by have := HSt.out.ord; have := HMo.out; have := HMn.out; have := HB10.out.size; have := HB11.out.size; omega⟩
      have HMa := Lib.hid (HSt.out.mA.below HB12.out); have HMb := Lib.hid (HSt.out.mB.below HB12.out); have HMc := Lib.hid (HSt.out.mC.below HB12.out)
      have HLt : Hid (∀ p, Clashes ls (tabI L) p → p.1 < p.2) := Lib.hid fun p h => Fnd.lt h
      have HMent : Hid (∀ r, Ment ls ls.length 0 r → r ∈ zs2) := Lib.hid fun r h => (HOrd2.out.2.2 r).2 (by have h2 := Ment.inR HCode.out h; exact ⟨h2.1, h2.2, by rw [← HP.out]; exact h⟩)
      have HLow12 : Hid (Below n w w12) := Lib.hid (HSt.out.low.trans (HB12.out.mono (by have := HSt.out.ord; omega)))
      have HNd := Lib.hid HOrd2.out.1
      have HKv : Hid (∀ r ∈ zs2, KV r) := Lib.hid fun r hr => by have := (HOrd2.out.2.2 r).1 hr; exact ⟨this.1, by omega⟩
      have hzl2 : zs2.length ≤ 200 := by have := HOrd2.out.2.1; omega
      clear HC12 HM12 HRow HMo HMn HB11 HC11
      generalize hCC : Clashes ls (tabI L) = CC at *
      have HCC := Lib.hid hCC
      clear hCC
      go_wp2_with fail
      go_loopw [50] (fun i wr => ∃ t : Nat, t ≤ zs2.length ∧ i = .int .i64 t ∧ SeatRel w12 n r0 ma mb mc sb mo mn k oa zs2 CC f0 t wr) (fun i _ => zs2.length - (intOf i).toNat)
      case atStart => exact ⟨0, Nat.zero_le _, rfl, 0, _, _, _, SI.start _ _ _ _, HMa.out, HMb.out, HMc.out, HBase.out, Below.refl _ _⟩
      case round =>
        obtain ⟨t, ht, rfl, places, c, f, nm, hsi, hma, hmb, hmc, hba, hlo⟩ := hrel
        by_cases htl : t < zs2.length
        rotate_left
        · obtain rfl : t = zs2.length := by omega
          have s0 := hba.s0; have s1 := hba.s1; have s2 := hba.s2; have s3 := hba.s3
          have HSi := Lib.hid hsi; have HMa := Lib.hid hma; have HMb := Lib.hid hmb; have HMc := Lib.hid hmc; have HBa := Lib.hid hba; have HLo := Lib.hid hlo
          have hth := there_row4 hba.res
          have HTh := Lib.hid hth
          clear hsi hma hmb hmc hba hlo hth
          have HSet : Hid (∀ W, wr.setCells r0 0 #[.map (some ma), .map (some mb), .map (some mc), .int .i64 (k : Int)].toList = W → W.heap[r0]? = some (.cells #[.map (some ma), .map (some mb), .map (some mc), .int .i64 (k : Int)] 59 (0, 0)) ∧ Save r0 wr W) := Lib.hid (by
            rintro W rfl
            exact ⟨set_row4 HBa.out.res _ _ _ _, save_row4 _ _ _ _ _ _⟩)
          go_wp2_with (refine wpList_store_mid rfl 59 _ _ rfl r0 0 #[.map (some ma), .map (some mb), .map (some mc), .int .i64 (k : Int)] rfl rfl HTh.out sizeS (oneS _ _ _ _) ?_; generalize hw4 : World.setCells _ _ _ _ = w4; obtain ⟨hr4, hs4⟩ := HSet.out _ hw4; have HR4 := Lib.hid hr4; have HS4 := Lib.hid hs4; clear hw4 hr4 hs4)
          (try simp only [Exit.inBlock, Exit.then])
          refine bodyPost_ret (results_cell_row rfl _ w4 r0 59 _ _ _ rfl HR4.out Try.underlying59 rfl sizeS) rfl ?_
          have hne : ∀ q, q ≠ r0 → q < wr.heap.size → w4.heap[q]? = wr.heap[q]? := fun q h1 h2 => HS4.out.block q h2 h1
          have ho := HSt.out.ord
          refine ⟨⟨_, ⟨c, f, nm, k⟩, places, rfl, ⟨⟨ma, mb, mc, rfl, HMa.out.same (hne _ (by omega) HMa.out.lt), HMb.out.same (hne _ (by omega) HMb.out.lt), HMc.out.same (hne _ (by omega) HMc.out.lt)⟩⟩, rfl, ?_⟩, ?_⟩
          · rw [← HCC.out] at HSi
            exact HSi.out.seats HMent.out HNk.out hzl2
          · show Below w.heap.size w w4
            rw [HN.out]
            exact (HLow12.out.trans HLo.out).trans (HS4.out.below (by omega) (by have := HMa.out.lt; omega))
        obtain ⟨wo, rfl⟩ : ∃ wo, wo = wr := ⟨_, rfl⟩
        have hlen : t < (zs2.length : Nat) := htl
        have hbt := HBase.out.ord
        obtain ⟨ob, ooff, rfl, hoc⟩ := hba.row t htl
        have s0 := hba.s0
        have HFresh := Lib.hid (hsi.fresh HNd.out htl)
        have hzm : zs2.getD t 0 ∈ zs2 := by rw [List.getD_eq_getElem?_getD, List.getElem?_eq_getElem htl]; exact List.getElem_mem htl
        have hkv := HKv.out _ hzm
        have HS1 := Lib.hid (fun (x : Nat) (hx : x < k) (hf : ∀ o, c o = some (x : Int) → ¬ CC (min (zs2.getD t 0) o, max (zs2.getD t 0) o)) => hsi.seat1 HNd.out htl HLt.out hx hf)
        have HS2 := Lib.hid (fun (m : Nat) (hx : f0 (zs2.getD t 0) = some m) => hsi.seat2 HNd.out htl hx)
        have HS3 := Lib.hid (hsi.seat3 HNd.out htl)
        have HSi := Lib.hid hsi; have HMa := Lib.hid hma; have HMb := Lib.hid hmb; have HMc := Lib.hid hmc; have HBa := Lib.hid hba; have HLo := Lib.hid hlo
        have HPk := Lib.hid hkv
        have hti : (t : Int) < (zs2.length : Int) := by omega
        clear hsi hma hmb hmc hba hlo hzm hlen
        obtain ⟨r, hr⟩ : ∃ r, zs2.getD t 0 = r := ⟨_, rfl⟩
        rw [hr] at hoc hkv HFresh HS1 HS2 HS3 HPk
        clear hr
        generalize zs2.length = zl at *
        have hmm := HMk.out
        go_upto_region 17 with (fail)
        clear hmm
        have HBa1 := Lib.hid (HBa.out.below ((Below.refl wo.heap.size wo).alloc (Nat.le_refl _) (.map #[] 0)))
        have HMa1 := Lib.hid (HMa.out.below ((Below.refl wo.heap.size wo).alloc (Nat.le_refl _) (.map #[] 0)))
        have HTk := Lib.hid (SetI.made wo)
        have HB1 := Lib.hid ((Below.refl wo.heap.size wo).alloc (Nat.le_refl _) (.map #[] 0))
        have HSz1 : Hid ((wo.alloc (.map #[] 0)).heap.size = wo.heap.size + 1) := Lib.hid (by simp)
        have s0 := HBa1.out.s0
        clear hoc
        generalize wo.alloc (.map #[] 0) = w13 at *
        obtain ⟨mt, hmt⟩ : ∃ mt, wo.heap.size = mt := ⟨_, rfl⟩
        have HMt := Lib.hid hmt
        rw [hmt] at HTk ⊢
        clear hmt
        go_wp2_with (first | (at_range; refine wpList_range_map w13 rfl _ 56 rfl Try.underlying56 intKind ma c HMa1.out rfl ?_; intro w14 left0 cnt0 hr0 hc0 hg0 hs0))
        go_frame
        have HR0 := Lib.hid hr0; have HC0 := Lib.hid hc0
        have HB14 : Hid (Below wo.heap.size wo w14) := Lib.hid (HB1.out.grown hg0 HB1.out.size (fun k hk => by simp at hk))
        have HTk14 : Hid (SetI w14 mt (takenS CC c r [])) := Lib.hid ((HTk.out.kept hg0 (by simp)).congr fun x => ⟨fun h => h.elim, fun ⟨_, h, _⟩ => by cases h⟩)
        have HZ14 : Hid (w13.heap.size < w14.heap.size) := Lib.hid (by omega)
        clear hr0 hc0 hg0 hs0 s0
        generalize hrb : w13.heap.size = rb at *
        have HRb := Lib.hid hrb; clear hrb
        go_loopw [15] (fun _ wx => TakenRel wo ma mt rb CC c r wx) (fun _ wx => wx.rangeLeft ma rb)
        case atStart => exact ⟨_, _, [], HR0.out, HC0.out, HTk14.out, HB14.out⟩
        case round =>
          obtain ⟨left, cnt, os, hr, hc, hf, hs⟩ := hrel
          have HR := Lib.hid hr; have HC := Lib.hid hc; have HFr := Lib.hid hf; have HS := Lib.hid hs
          have hne3 := hr.ne
          clear hr hc hf hs
          go_wp2_with (first | (at_next; refine wpList_next_map wr rfl _ rfl intKind intElem ma rb cnt c left rfl HR.out ?_ ?_))
          · intro hl
            have HFin := Lib.hid (HC.out.fin hl)
            clear hl
            obtain ⟨wt, rfl⟩ : ∃ wt, wt = wr := ⟨_, rfl⟩
            obtain ⟨fT, hfT, hfS⟩ := HFr.out
            have HfT := Lib.hid hfT
            have HIn : Hid (∀ x : Int, (fT x).isSome = true → 0 ≤ x ∧ x < (k : Int)) := Lib.hid fun x hx => by
              obtain ⟨o, _, h2, _⟩ := (hfS x).1 hx
              exact HSi.out.col o x h2
            have HNot : Hid (∀ x : Int, (fT x).isSome = false → ∀ o, c o = some x → ¬ CC (min r o, max r o)) := Lib.hid fun x hx o ho hcc => by
              have := (hfS x).2 ⟨o, (HFin.out o).2 (by rw [ho]; rfl), ho, hcc⟩
              rw [hx] at this; cases this
            have HBaT := Lib.hid (HBa.out.below HS.out); have HMaT := Lib.hid (HMa.out.below HS.out); have HMbT := Lib.hid (HMb.out.below HS.out); have HMcT := Lib.hid (HMc.out.below HS.out)
            have hnr : n < r0 := HSt.out.ord.1
            have HLoT : Hid (Below n w12 wt) := Lib.hid (HLo.out.trans (HS.out.mono (by have := HMa.out.lt; omega)))
            have hpl : places ≤ 200 := by have := HSi.out.le; omega
            clear hfT hfS
            go_wp2_with fail
            go_loopw [17] (fun i wx => ∃ x : Nat, x ≤ k ∧ i = .int .i64 x ∧ wt = wx) (fun i _ => k - (intOf i).toNat)
            case atStart => exact ⟨0, Nat.zero_le _, rfl, rfl⟩
            case round =>
              obtain ⟨x, hx, rfl, rfl⟩ := hrel
              have hkx : KV (x : Int) := ⟨by omega, by omega⟩
              have HKx := Lib.hid hkx
              cases hb : (fT (x : Int)).isSome
              rotate_left
              · have hxk : x < k := by have := HIn.out x hb; omega
                have HBb := Lib.hid hb
                go_wp2_with (at_lookup; refine wpList_get_setI _ rfl _ _ 99 rfl Try.underlying99 mt fT HfT.out rfl x HKx.out rfl HBb.out ?_)
                go_roundw
                case rel => exact ⟨x + 1, by omega, by go_num, by trivial⟩
                case measure => simp [intOf]; omega
              have HBb := Lib.hid hb
              have HFree := Lib.hid (HNot.out x hb)
              have s0 := HBaT.out.s0; have s1 := HBaT.out.s1; have s2 := HBaT.out.s2
              clear hb
              cases hf0 : f0 r with
              | none =>
                have HF0 := Lib.hid hf0
                by_cases hxk : x < k
                · have hxi : (x : Int) < (k : Int) := by omega
                  have HE := Lib.hid (HS1.out x hxk HFree.out)
                  go_wp2_with (first | (at_lookup; refine wpList_get_setI _ rfl _ _ 99 rfl Try.underlying99 mt fT HfT.out rfl x HKx.out rfl HBb.out ?_) | (at_lookup; refine wpList_getok_mapU _ rfl _ _ 57 rfl Try.underlying57 mn f0 HBaT.out.cst rfl r HPk.out rfl HF0.out ?_) | (at_mapUpdate; refine wpList_put_map _ rfl _ _ _ 56 rfl Try.underlying56 intKind intElem allI allI_mem allI_len ma c HMaT.out rfl r (x : Int) HPk.out (And.intro (by omega) (by omega)) rfl rfl ?_; intro w16 hm16 hg16; have HA16 := Lib.hid hm16; have HB16 := Lib.hid (HMbT.out.kept hg16 (by simp; omega)); have HC16 := Lib.hid (HMcT.out.kept hg16 (by simp; omega)); have HS16 := Lib.hid (HBaT.out.grown hg16 (.inl rfl) (fun _ _ _ => HMaT.out.ne)); have HL16 := Lib.hid (HLoT.out.grown hg16 (by have := HMaT.out.lt; omega) (fun k hk => by simp only [Option.some.injEq] at hk; omega)); clear hm16 hg16))
                  go_roundw
                  case rel => exact ⟨t + 1, by omega, by go_num, places, _, f, nm, HE.out, HA16.out, HB16.out, HC16.out, HS16.out, HL16.out⟩
                  case measure => simp [intOf]; omega
                · have hxi : ¬ (x : Int) < (k : Int) := by omega
                  have HE := Lib.hid HS3.out
                  go_wp2_with (first | (at_lookup; refine wpList_get_setI _ rfl _ _ 99 rfl Try.underlying99 mt fT HfT.out rfl x HKx.out rfl HBb.out ?_) | (at_lookup; refine wpList_getok_mapU _ rfl _ _ 57 rfl Try.underlying57 mn f0 HBaT.out.cst rfl r HPk.out rfl HF0.out ?_) | (at_len; refine wpList_len_map _ rfl _ 56 rfl Try.underlying56 mb places f HMbT.out rfl ?_) | (at_mapUpdate; refine wpList_put_mapN _ rfl _ _ _ 56 rfl Try.underlying56 intKind intElem allI allI_mem allI_len mb places f HMbT.out rfl r (places : Int) HPk.out (And.intro (by omega) (by omega)) HFresh.out.2.1 rfl rfl ?_; intro w16 hm16 hg16; have HA16 := Lib.hid (HMaT.out.kept hg16 (by simp; omega)); have HB16 := Lib.hid hm16; have HC16 := Lib.hid (HMcT.out.kept hg16 (by simp; omega)); have HS16 := Lib.hid (HBaT.out.grown hg16 (.inr (.inl rfl)) (fun _ _ _ => HMbT.out.at.ne)); have HL16 := Lib.hid (HLoT.out.grown hg16 (by have := HMaT.out.lt; omega) (fun k hk => by simp only [Option.some.injEq] at hk; omega)); clear hm16 hg16))
                  go_roundw
                  case rel => exact ⟨t + 1, by omega, by go_num, places + 1, c, _, nm, HE.out, HA16.out, HB16.out, HC16.out, HS16.out, HL16.out⟩
                  case measure => simp [intOf]; omega
              | some m =>
                have HF0 := Lib.hid hf0
                have HMu := Lib.hid (HNk.out r m hf0).2.2
                by_cases hxk : x < k
                · have hxi : (x : Int) < (k : Int) := by omega
                  have HE := Lib.hid (HS1.out x hxk HFree.out)
                  go_wp2_with (first | (at_lookup; refine wpList_get_setI _ rfl _ _ 99 rfl Try.underlying99 mt fT HfT.out rfl x HKx.out rfl HBb.out ?_) | (at_lookup; refine wpList_getok_mapU _ rfl _ _ 57 rfl Try.underlying57 mn f0 HBaT.out.cst rfl r HPk.out rfl HF0.out ?_) | (at_mapUpdate; refine wpList_put_map _ rfl _ _ _ 56 rfl Try.underlying56 intKind intElem allI allI_mem allI_len ma c HMaT.out rfl r (x : Int) HPk.out (And.intro (by omega) (by omega)) rfl rfl ?_; intro w16 hm16 hg16; have HA16 := Lib.hid hm16; have HB16 := Lib.hid (HMbT.out.kept hg16 (by simp; omega)); have HC16 := Lib.hid (HMcT.out.kept hg16 (by simp; omega)); have HS16 := Lib.hid (HBaT.out.grown hg16 (.inl rfl) (fun _ _ _ => HMaT.out.ne)); have HL16 := Lib.hid (HLoT.out.grown hg16 (by have := HMaT.out.lt; omega) (fun k hk => by simp only [Option.some.injEq] at hk; omega)); clear hm16 hg16))
                  go_roundw
                  case rel => exact ⟨t + 1, by omega, by go_num, places, _, f, nm, HE.out, HA16.out, HB16.out, HC16.out, HS16.out, HL16.out⟩
                  case measure => simp [intOf]; omega
                · have hxi : ¬ (x : Int) < (k : Int) := by omega
                  have HE := Lib.hid (HS2.out m hf0)
                  go_wp2_with (first | (at_lookup; refine wpList_get_setI _ rfl _ _ 99 rfl Try.underlying99 mt fT HfT.out rfl x HKx.out rfl HBb.out ?_) | (at_lookup; refine wpList_getok_mapU _ rfl _ _ 57 rfl Try.underlying57 mn f0 HBaT.out.cst rfl r HPk.out rfl HF0.out ?_) | (at_mapUpdate; refine wpList_put_map _ rfl _ _ _ 57 rfl Try.underlying57 intKind u32Elem allI allI_mem allI_len mc nm HMcT.out rfl r m HPk.out HMu.out rfl rfl ?_; intro w16 hm16 hg16; have HA16 := Lib.hid (HMaT.out.kept hg16 (by simp; omega)); have HB16 := Lib.hid (HMbT.out.kept hg16 (by simp; omega)); have HC16 := Lib.hid hm16; have HS16 := Lib.hid (HBaT.out.grown hg16 (.inr (.inr rfl)) (fun _ _ _ => HMcT.out.ne)); have HL16 := Lib.hid (HLoT.out.grown hg16 (by have := HMaT.out.lt; omega) (fun k hk => by simp only [Option.some.injEq] at hk; omega)); clear hm16 hg16))
                  go_roundw
                  case rel => exact ⟨t + 1, by omega, by go_num, places, c, f, _, HE.out, HA16.out, HB16.out, HC16.out, HS16.out, HL16.out⟩
                  case measure => simp [intOf]; omega
          · intro z x w15 cnt3 hvz hfz hlz hr3 hlt3 hg3 hs3 hen
            have HC3 := Lib.hid (HR.out.coll intKind HC.out hfz hlz)
            have HFz := Lib.hid hfz
            have HB15 : Hid (Below wo.heap.size wo w15) := Lib.hid (HS.out.grown hg3 HS.out.size (fun k hk => by simp only [Option.some.injEq] at hk; have := HRb.out; have := HSz1.out; omega))
            have hrm : rb ≠ mt := by have := HRb.out; have := HSz1.out; have := HMt.out; omega
            have HF3 := Lib.hid (HFr.out.kept hg3 (by simp; omega))
            have HR3 := Lib.hid hr3; have HM := Lib.hid hlt3
            have hkz : KV z := by
              obtain ⟨D, l, _, hM⟩ := HMa.out
              exact hM.ok _ ((hM.mem _).2 (by rw [hfz]; rfl))
            have hxr := HSi.out.col z x hfz
            have HV : Hid (PV (min r z, max r z)) := Lib.hid (by have := HPk.out; unfold PV KV at *; simp; omega)
            have HKx : Hid (KV x) := Lib.hid ⟨hxr.1, by omega⟩
            obtain ⟨fC, hfC, hfCS⟩ := (HBa.out.below HB15.out).cl
            have HfC := Lib.hid hfC
            have HIs := Lib.hid (hfCS (min r z, max r z))
            have hmtma : mt ≠ ma := by have := HMt.out; have := HMa.out.lt; omega
            clear hr3 hg3 hfz hlz hs3 hlt3 hfC hfCS hvz hkz hxr
            cases hb : (fC (min r z, max r z)).isSome
            · have HBb := Lib.hid hb
              have HF4 := Lib.hid (HF3.out.congr (taken_skip (fun hcc => by have := HIs.out.2 hcc; rw [hb] at this; cases this)))
              clear hb
              go_wp2_with (at_lookup; refine wpList_get_setP _ rfl _ _ 77 rfl Try.underlying77 mo fC HfC.out rfl (min r z, max r z) HV.out rfl HBb.out ?_)
              go_frame
              go_roundw
              case rel => exact ⟨_, cnt3, os ++ [z], HR3.out, HC3.out, HF4.out, HB15.out⟩
              case measure => rw [HR3.out.left_eq, HR.out.left_eq]; exact HM.out
            · have HBb := Lib.hid hb
              have HPut := Lib.hid (taken_put (os := os) (HIs.out.1 hb) HFz.out)
              obtain ⟨fT, hfT, hfS⟩ := HF3.out
              have HfT := Lib.hid hfT; have HfS := Lib.hid hfS
              clear hb hfT hfS
              go_wp2_with (first | (at_lookup; refine wpList_get_setP _ rfl _ _ 77 rfl Try.underlying77 mo fC HfC.out rfl (min r z, max r z) HV.out rfl HBb.out ?_) | (at_mapUpdate; refine wpList_put_map _ rfl _ _ _ 99 rfl Try.underlying99 intKind boolKind allI allI_mem allI_len mt fT HfT.out rfl x () HKx.out trivial rfl rfl ?_; intro w16 hf16 hg16; have HF16 : Hid (SetI w16 mt _) := Lib.hid ⟨_, hf16, fun p => ((updF_some _ _ _ _).trans (or_congr Iff.rfl (HfS.out p))).trans (HPut.out p)⟩; have HR16 := Lib.hid (HR3.out.kept hg16 (by simp; omega) (by simp; omega)); have HB16 : Hid (Below wo.heap.size wo w16) := Lib.hid (HB15.out.grown hg16 HB15.out.size (fun k hk => by simp only [Option.some.injEq] at hk; have := HMt.out; omega)); clear hf16 hg16))
              go_frame
              go_roundw
              case rel => exact ⟨_, cnt3, os ++ [z], HR16.out, HC3.out, HF16.out, HB16.out⟩
              case measure => rw [HR16.out.left_eq, HR.out.left_eq]; exact HM.out
end Go.Proofs.Ytjfpaelmcepidaa.PK
