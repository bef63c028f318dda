/- The walk of lives, with what clashes does at each instruction. -/
import Derived.Test.YtjfpaelmcepidaaA2
namespace Go.Proofs.Ytjfpaelmcepidaa.PK
open Go.RowKit Go.Maps

theorem CdAt.saveP {w w' : World} {q off mo : Nat} {x : Cd} {F : Int × Int → Prop} (c : CdAt w q off x) (hs : Save mo w w') (hF : SetP w mo F) : CdAt w' q off x := c.save hs (hF.ne c.c0)
theorem wi_mono {b : Bool} {lo hi hi' v : Int} (h : wi v b lo hi = true) (hh : hi ≤ hi') : wi v b lo hi' = true := by
  unfold wi at *
  cases b
  · simpa using h
  · simp at h ⊢; omega
theorem isCode_big {x : Cd} {regs n : Int} (h : isCodeB x regs n = true) (hr : regs ≤ 200) (hn : n ≤ 400) : isCodeB x 200 400 = true := by
  unfold isCodeB at *
  simp only [Bool.and_eq_true] at *
  obtain ⟨h0, h1, h2, h3, h4, h5⟩ := h
  exact ⟨h0, wi_mono h1 hr, wi_mono h2 hr, wi_mono h3 hr, wi_mono h4 hn, h5⟩
theorem save_turned {w w' : World} {b : Nat} (h : w.mapTurned w' b) : Save b w w' := save_grownB h.grown
theorem save_new {w w' w'' : World} {mo lm : Nat} (h : Save mo w w') (hs : Save lm w' w'') (hl : w.heap.size ≤ lm) : Save mo w w'' :=
  ⟨hs.os.trans h.os, hs.tape.trans h.tape, hs.output.trans h.output, Nat.le_trans h.size hs.size, fun k hk hq => (hs.block k (Nat.lt_of_lt_of_le hk h.size) (by omega)).trans (h.block k hk hq)⟩
theorem SetP.save {w w' : World} {b q : Nat} {S : Int × Int → Prop} (h : SetP w b S) (hs : Save q w w') (hne : b ≠ q) : SetP w' b S := h.kept (grown_save hs) (by simp; exact hne)
theorem del_is {x : Cd} (hd : fD x.op = true) {B : Int → Bool} (r : Int) : (r ≠ x.d ∧ B r = true) ↔ (!defB x r && B r) = true := by
  unfold defB
  rw [hd]
  by_cases c : x.d = r
  · simp [c]
  · have c2 : ¬ r = x.d := fun e => c e.symm
    simp [c, c2]
theorem keep_is {x : Cd} (hd : fD x.op = false) {B : Int → Bool} (r : Int) : B r = true ↔ (!defB x r && B r) = true := by
  unfold defB
  rw [hd]; simp
theorem use_is {x : Cd} {B : Int → Bool} {m : Nat} (hm : m = (usesL x).length) (r : Int) : ((!defB x r && B r) = true ∨ r ∈ (usesL x).take m) ↔ (usesB x r || (!defB x r && B r)) = true := by
  subst hm
  rw [List.take_length, Bool.or_eq_true]
  unfold usesB
  rw [List.contains_iff_mem]
  exact Or.comm
theorem behB_in {inn : Int → Int → Bool} {regs : Int} (hi : ∀ b r, inn b r = true → 0 ≤ r ∧ r < regs) {l : List Cd} (hu : ∀ x ∈ l, ∀ u ∈ usesL x, 0 ≤ u ∧ u < regs) {i : Nat} (_ : i < l.length) (r : Int) (h : behB l i inn r = true) : 0 ≤ r ∧ r < regs := by
  unfold behB at h
  rw [Bool.or_eq_true, Bool.and_eq_true] at h
  rcases h with h | ⟨_, h⟩
  · exact liveL_in hi _ r (fun x hx => hu x (List.mem_of_mem_drop hx)) h
  · exact hi _ _ h
theorem LiveOf.there (ls : List (List Cd)) (regs : Nat) : ∃ L, LiveOf ls regs L :=
  ⟨_, fun b r => @decide (LiveR ls (r : Nat) b) (Classical.propDecidable _), fun b _ r _ => by simp, rfl⟩
/-- Live of the program at a valid program whose table is known. -/
theorem sLive_is (regs : Int) (ls : List (List Cd)) (L : List (List Int)) (bl : Option Addr) (cap : Nat) (w : World) (hin : BlkIn w bl ls) (hv : progErrW regs ls = 0) (hlm : ∀ k, k < ls.length → (atB ls k).length ≤ 9223372036854775807) (hL : LiveOf ls regs.toNat L) :
    Calls Try.prog 23 #[.agg #[.int .i64 regs, .slice bl ls.length cap]] w fun e w' => (∃ a c, e = .returned (.tuple #[.slice a L.length c, .int .i64 0]) ∧ RowsIn w' a L) ∧ Below w.heap.size w w' :=
  (sLive_ok regs ls bl cap w hin hv hlm).mono fun e w' h => by
    obtain ⟨a, c, L', rfl, h1, h2, h3⟩ := h.shape
    obtain rfl := (h2.1 hv).unique hL
    rw [hv]
    exact ⟨⟨a, c, rfl, h1⟩, h3⟩
/-- How things stand ahead of an instruction. -/
structure LivSt (ls : List (List Cd)) (inn : Int → Int → Bool) (w2 : World) (mo lm b k : Nat) (wr : World) : Prop where
  fnd : SetP wr mo (Fnd ls inn b k)
  liv : SetI wr lm fun r => liveL ((atB ls b).drop k) inn r = true
  sav : Save mo w2 wr
set_option maxRecDepth 100000 in
set_option maxHeartbeats 2000000 in
theorem lives_any (regs : Int) (ls : List (List Cd)) (L : List (List Int)) (bl : Option Addr) (cap Bp Bo mo : Nat) (w : World) (hv : progErrW regs ls = 0) (hlm : ∀ k, k < ls.length → (atB ls k).length ≤ 9223372036854775807) (hL : LiveOf ls regs.toNat L)
    (hin : BlkIn w bl ls) (hp : w.cell? ⟨Bp, 1, none⟩ = some (.slice bl ls.length cap)) (ho : w.cell? ⟨Bo, 0, none⟩ = some (.map (some mo))) (hF : SetP w mo fun _ => False) :
    Calls Try.prog 71 #[.agg #[.int .i64 regs, .slice bl ls.length cap], .func (.func 72) #[] #[.pointer (some ⟨Bp, 0, none⟩), .pointer (some ⟨Bo, 0, none⟩)]] w
      fun e w' => e = .returned (.tuple #[]) ∧ SetP w' mo (Clashes ls (tabI L)) ∧ Save mo w w' := by
  obtain ⟨hbig, hcode, _⟩ := prog_partsW hv
  have hb2 : 0 ≤ regs ∧ regs ≤ 200 ∧ 1 ≤ ls.length ∧ ls.length ≤ 400 := by unfold tooBigW at hbig; omega
  have HLive := Lib.hid (fun u (h : BlkIn u bl ls) => sLive_is regs ls L bl cap u h hv hlm hL)
  have HI := Lib.hid hin; have HF := Lib.hid hF; have HC := Lib.hid hcode; have HLm := Lib.hid hlm; have HLv := Lib.hid hL
  have hmoB : Bo ≠ mo := hF.ne ho
  have hmoP : Bp ≠ mo := hF.ne hp
  have hmo := hF.lt
  have hLlen := hL.len
  have HP := Lib.hid hp; have HO := Lib.hid ho
  clear hin hF hcode hlm hL hbig hv hp ho
  have HMk := Lib.hid (@run_makeMap Try.prog)
  go_enter Try.func71, Try.ntmps71
  go_upto_region 1 with (fail)
  generalize hw0 : w.alloc _ = w0
  have hb0 : Below w.heap.size w w0 := by rw [← hw0]; exact (Below.refl _ _).alloc (Nat.le_refl _) _
  have h0 : w0.cell? ⟨w.heap.size, 0, none⟩ = some (.int .i64 regs) := by subst hw0; simp [go_sem]
  have h1 : w0.cell? ⟨w.heap.size, 1, none⟩ = some (.slice bl ls.length cap) := by subst hw0; simp [go_sem]
  have HB0 := Lib.hid hb0
  clear hw0 hb0
  go_wp2_with fail
  refine (HLive.out w0 (HI.out.below HB0.out)).mono ?_; rintro e w2 ⟨⟨la, lc, rfl, hrows⟩, hb2'⟩
  have HRows := Lib.hid hrows
  have HB2 : Hid (Below w.heap.size w w2) := Lib.hid (HB0.out.trans (hb2'.mono HB0.out.size))
  have k1 := keep h1 hb2'
  have HF2 := Lib.hid (HF.out.below HB2.out)
  have pP := keep HP.out HB2.out; have pO := keep HO.out HB2.out
  clear hrows hb2' h0 h1
  go_wp2_with fail
  have HInn : Hid (∀ b r, tabI L b r = true → 0 ≤ r ∧ r < regs) := Lib.hid (tabI_in HLv.out hb2.1)
  have HTab : Hid (∀ (b : Nat) r, tabI L b r = decide (r ∈ L.getD b [])) := Lib.hid fun b r => rfl
  have HLin : Hid (∀ b, b < ls.length → ∀ x ∈ atB ls b, ∀ u ∈ usesL x, 0 ≤ u ∧ u < regs) := Lib.hid fun b hb x hx => by
    obtain ⟨j, hj, rfl⟩ := List.getElem_of_mem hx
    exact usesL_in (by have := HC.out b j hb hj; rwa [atC_get hj] at this)
  have HRowL : Hid (∀ b : Nat, (L.getD b []).length ≤ 200) := Lib.hid fun b => Nat.le_trans (HLv.out.row b) (by omega)
  generalize hinn : tabI L = inn at *
  have HInnE := Lib.hid hinn
  clear hinn
  go_loopw [28] (fun i wr => ∃ b : Nat, b ≤ ls.length ∧ i = .int .i64 b ∧ SetP wr mo (Fnd ls inn b (atB ls b).length) ∧ Save mo w2 wr) (fun i _ => ls.length - (intOf i).toNat)
  case atStart => exact ⟨0, Nat.zero_le _, rfl, HF2.out.congr fun p => ⟨fun h => h.elim, fun h => (Fnd.start _ _ _ h).elim⟩, Save.refl _ _⟩
  case round =>
    obtain ⟨b, hb, rfl, hfnd, hsv⟩ := hrel
    by_cases hlt : b < ls.length
    rotate_left
    · obtain rfl : b = ls.length := by omega
      have HE : Hid (SetP wr mo (Clashes ls inn) ∧ Save mo w wr) := Lib.hid ⟨hfnd, (Save.of_below HB2.out).trans hsv⟩
      clear hfnd hsv
      go_wp2_with fail
      go_end0
      exact ⟨rfl, by rw [HInnE.out]; exact HE.out.1, HE.out.2⟩
    have hbi : (b : Int) < (ls.length : Int) := by omega
    have hlb := HLm.out b hlt
    obtain ⟨cb, coff, ca, cc, hbe, hcell0, hcds⟩ := (HI.out.below HB2.out) b hlt
    have hcell := hsv.cell (HF2.out.ne hcell0) hcell0
    have HCds := Lib.hid hcds
    have hcell2 := hsv.cell (HF2.out.ne k1) k1
    have HFnd := Lib.hid hfnd; have HSv := Lib.hid hsv
    clear hfnd hsv hcell0 hcds
    have HI2 := Lib.hid (HI.out.below HB2.out)
    subst hbe
    generalize hm : (atB ls b).length = m at *
    have HM := Lib.hid hm; clear hm
    have hmm := HMk.out
    go_wp2_with fail
    clear hmm
    have HF3 := Lib.hid (HFnd.out.kept (World.grownBy_alloc wr (.map #[] 0) none) (by simp))
    have HL3 := Lib.hid (SetI.made wr)
    have HS3 : Hid (Save mo w2 (wr.alloc (.map #[] 0))) := Lib.hid (HSv.out.trans (Save.of_below ((Below.refl _ _).alloc (Nat.le_refl _) _)))
    have HLz : Hid (w2.heap.size ≤ wr.heap.size) := Lib.hid HSv.out.size
    generalize hw3 : wr.alloc (.map #[] 0) = w3 at *
    clear hw3
    generalize wr.heap.size = lm at *
    clear hcell hcell2
    have hlmo : lm ≠ mo := by have := HF2.out.lt; have := HLz.out; omega
    go_loopw [9] (fun i wr => ∃ k : Nat, k ≤ m ∧ i = .int .i64 ((k : Int) - 1) ∧ LivSt ls inn w2 mo lm b k wr) (fun i _ => (intOf i + 1).toNat)
    case atStart => exact ⟨m, Nat.le_refl _, rfl, HF3.out, HL3.out.congr fun r => (by rw [← HM.out, List.drop_length]; simp [liveL]), HS3.out⟩
    case round =>
      obtain ⟨k, hk, hj, hst⟩ := hrel
      by_cases hk0 : k = 0
      · subst hk0
        have hj2 : u9 = .int .i64 (-1) := by rw [hj]; rfl
        subst hj2
        have HE : Hid (SetP wr mo (Fnd ls inn (b + 1) (atB ls (b + 1)).length)) := Lib.hid (hst.fnd.congr fun p => (Fnd.turn ls inn b p).symm)
        have HS := Lib.hid hst.sav
        clear hst hj
        go_wp2_with fail
        go_roundw
        case rel => exact ⟨b + 1, by omega, by go_num, HE.out, HS.out⟩
        case measure => simp [intOf]; omega
      obtain ⟨i, rfl⟩ : ∃ i, k = i + 1 := ⟨k - 1, by omega⟩
      have hj2 : u9 = .int .i64 (i : Int) := by rw [hj]; congr 1; omega
      subst hj2
      have hil : i < m := by omega
      have hii : (i : Int) < (m : Int) := by omega
      obtain ⟨xb, xoff, hxe, hx⟩ := HCds.out i (by rw [HM.out]; exact hil)
      have hx' := CdAt.saveP hx hst.sav HF2.out
      have hX := HC.out b i hlt (by rw [HM.out]; exact hil)
      have HXs : Hid (∀ t ∈ usesL (atC (atB ls b) i), 0 ≤ t ∧ t < regs) := Lib.hid (usesL_in hX)
      have HStep : Hid (∀ p, _ ↔ Fnd ls inn b i p) := Lib.hid fun p => (Fnd.step (by rw [HM.out]; exact hil) p).symm
      have HBN : Hid (∀ r, liveL ((atB ls b).drop i) inn r = _) := Lib.hid fun r => behB_next (by rw [HM.out]; exact hil) inn r
      have HBe : Hid (∀ r, behB (atB ls b) i inn r = (liveL ((atB ls b).drop (i + 1)) inn r || (fT (atC (atB ls b) i).op && inn (atC (atB ls b) i).to r))) := Lib.hid fun r => rfl
      have HSt := Lib.hid hst
      have hcp := code_parts hX
      have HX4 : Hid (isCodeB (atC (atB ls b) i) 200 400 = true) := Lib.hid (isCode_big hX hb2.2.1 (by omega))
      subst hxe
      obtain ⟨x, hxx⟩ : ∃ x, atC (atB ls b) i = x := ⟨_, rfl⟩
      have HXe := Lib.hid hxx
      rw [hxx] at hx' hcp HX4 HXs HStep HBN HBe
      clear hst hj hX hx hxx
      obtain ⟨x0, x1, x2, x3, x4, x5⟩ := hx'
      have HTo := Lib.hid hcp.2.2.2.2.2.2.2.1
      have HBin : Hid (∀ r, behB (atB ls b) i inn r = true → 0 ≤ r ∧ r < 200) := Lib.hid fun r hr => (by have := behB_in HInn.out (HLin.out b hlt) (by rw [HM.out]; exact hil) r hr; omega)
      have HDef := Lib.hid (Defines_any x HX4.out)
      have HUse := Lib.hid (Uses_any x HX4.out)
      have HDr := Lib.hid hcp.2.1
      go_upto_region 10 with (fail)
      have HL4 := Lib.hid ((HSt.out.liv).kept (World.grownBy_alloc wr (.cells #[.int .i64 x.op, .int .i64 x.d, .int .i64 x.a, .int .i64 x.b, .int .u32 x.im, .int .i64 x.to] 68) none) (by simp))
      have HF4 := Lib.hid ((HSt.out.fnd).kept (World.grownBy_alloc wr (.cells #[.int .i64 x.op, .int .i64 x.d, .int .i64 x.a, .int .i64 x.b, .int .u32 x.im, .int .i64 x.to] 68) none) (by simp))
      have HS4 : Hid (Save mo w2 (wr.alloc (.cells #[.int .i64 x.op, .int .i64 x.d, .int .i64 x.a, .int .i64 x.b, .int .u32 x.im, .int .i64 x.to] 68))) := Lib.hid (HSt.out.sav.trans (Save.of_below ((Below.refl _ _).alloc (Nat.le_refl _) _)))
      have HX4' := Lib.hid (cdAt_new wr x 68)
      have hqmo : wr.heap.size ≠ mo := by have := HSt.out.fnd.lt; omega
      have hqlm : wr.heap.size ≠ lm := by have := HSt.out.liv.lt; omega
      generalize hw4 : wr.alloc (.cells #[.int .i64 x.op, .int .i64 x.d, .int .i64 x.a, .int .i64 x.b, .int .u32 x.im, .int .i64 x.to] 68) = w4 at *
      clear hw4
      generalize wr.heap.size = q at *
      have HKd : Hid (fD x.op = true → KV x.d) := Lib.hid fun h => (by have := HDr.out h; unfold KV; omega)
      clear x0 x1 x2 x3 x4 x5 hcp
      obtain ⟨x0, x1, x2, x3, x4, x5⟩ := HX4'.out
      simp only [Nat.zero_add] at x1 x2 x3 x4 x5
      by_cases hT : fT x.op = false
      · have f24 : (x.op == 24) = false := by unfold fT at hT; have := of_decide_eq_false hT; rw [beq_eq_false_iff_ne]; omega
        have f25 : (x.op == 25) = false := by unfold fT at hT; have := of_decide_eq_false hT; rw [beq_eq_false_iff_ne]; omega
        have HBj : Hid (SetI w4 lm fun r => behB (atB ls b) i inn r = true) := Lib.hid (HL4.out.congr fun r => by rw [HBe.out, hT]; simp)
        have HSj := HS4; have HFj := HF4; have HXj := HX4'
        cases hd : fD x.op
        · go_wp2_with fail
          have hpc := HSj.out.cell hmoP pP
          have hoc := HSj.out.cell hmoB pO
          have HLook := Lib.hid (look_any ls (some ⟨cb, coff, none⟩) cap b i Bp Bo mo lm (fun r => behB (atB ls b) i inn r) (Fnd ls inn b (i + 1)) w4 hlt (by rw [HM.out]; exact hil) ((HI2.out.saveP HSj.out HF2.out)) hpc hoc HBj.out HFj.out hlmo (by rw [HXe.out]; exact HX4.out) HBin.out)
          rw [HXe.out] at HLook
          clear hpc hoc
          refine HLook.out.mono ?_; rintro e w5 ⟨rfl, hf5, hs5⟩
          have hx5 := HXj.out.save hs5 hqmo
          have HL5 := Lib.hid (HBj.out.save hs5 hlmo)
          have HF5 := Lib.hid (hf5.congr HStep.out)
          have HS5 := Lib.hid (HSj.out.trans hs5)
          have HX5 := Lib.hid hx5
          obtain ⟨y0, y1, y2, y3, y4, y5⟩ := hx5
          simp only [Nat.zero_add] at y1 y2 y3 y4 y5
          clear hf5 hs5 HLook
          go_wp2_with fail
          refine (HDef.out _).mono ?_; rintro e w6 ⟨rfl, hb6⟩
          have HL6 := Lib.hid (HL5.out.below hb6); have HF6 := Lib.hid (HF5.out.below hb6); have HS6 := Lib.hid (HS5.out.trans (Save.of_below hb6)); have HX6 := Lib.hid (HX5.out.keep hb6)
          obtain ⟨z0, z1, z2, z3, z4, z5⟩ := HX6.out
          simp only [Nat.zero_add] at z1 z2 z3 z4 z5
          clear hb6 y0 y1 y2 y3 y4 y5
          have HL7 : Hid (SetI w6 lm fun r => (!defB x r && behB (atB ls b) i inn r) = true) := Lib.hid (HL6.out.congr (keep_is (B := fun r => behB (atB ls b) i inn r) hd))
          have HF7 := HF6; have HS7 := HS6; have HX7 := HX6
          rw [hd]
          go_wp2_with fail
          refine (HUse.out _).mono ?_; rintro e w8 ⟨⟨v, rfl, ho⟩, hb8⟩
          have HL8 := Lib.hid (HL7.out.below hb8); have HF8 := Lib.hid (HF7.out.below hb8); have HS8 := Lib.hid (HS7.out.trans (Save.of_below hb8))
          obtain ⟨ua, uc, rfl⟩ := owns_shape ho
          have HU8 := Lib.hid (rowAt_owns ho (q := lm) HL7.out.lt)
          have hul := usesL_len x
          have HUin := HXs
          clear ho hb8
          go_wp2_with fail
          go_loopw [87] (fun c wr => ∃ m2 : Nat, m2 ≤ (usesL x).length ∧ c = .int .i64 m2 ∧ SetI wr lm (fun r => (!defB x r && behB (atB ls b) i inn r) = true ∨ r ∈ (usesL x).take m2) ∧ Save lm w8 wr) (fun c _ => (usesL x).length - (intOf c).toNat)
          case atStart => exact ⟨0, Nat.zero_le _, rfl, HL8.out.congr fun r => (by simp), Save.refl _ _⟩
          case round =>
            obtain ⟨m2, hm2, rfl, hl9, hs9⟩ := hrel
            by_cases hlt2 : m2 < (usesL x).length
            · obtain ⟨a', cap', e', hi', _⟩ := RowAt.save HU8.out hs9
              cases e'
              obtain ⟨ub, uoff, rfl, hcu⟩ := hi' m2 hlt2
              have hrn := HUin.out ((usesL x).getD m2 0) (by rw [List.getD_eq_getElem?_getD, List.getElem?_eq_getElem hlt2]; exact List.getElem_mem hlt2)
              have HAdd := Lib.hid (addRow_step (S := fun r => (!defB x r && behB (atB ls b) i inn r) = true) hlt2)
              obtain ⟨fu, hfu, hfus⟩ := hl9
              have HfU := Lib.hid hfu; have HfUS := Lib.hid hfus; have HS9 := Lib.hid hs9
              clear hfu hfus hs9 hi'
              have hml : (m2 : Int) < (usesL x).length := by omega
              generalize hlen : (usesL x).length = ul at *
              clear hlen
              generalize (usesL x).getD m2 0 = rn at *
              have HKn : Hid (KV rn) := Lib.hid (by unfold KV; omega)
              go_wp2_with (at_mapUpdate; refine wpList_put_map _ rfl _ _ _ 99 rfl Try.underlying99 intKind boolKind allI allI_mem allI_len lm fu HfU.out rfl rn () HKn.out trivial rfl rfl ?_; intro w9 hl9 hg9)
              have HL9 : Hid (SetI w9 lm _) := Lib.hid ⟨_, hl9, fun r => ((updF_some _ _ _ _).trans (or_congr Iff.rfl (HfUS.out r))).trans (HAdd.out r)⟩
              have HS9' := Lib.hid (HS9.out.trans (save_grownB hg9))
              clear hl9 hg9
              go_roundw
              case rel => exact ⟨m2 + 1, by omega, by go_num, HL9.out, HS9'.out⟩
              case measure => simp [intOf]; omega
            · have hme : m2 = (usesL x).length := by omega
              have HE : Hid (LivSt ls inn w2 mo lm b i wr) := Lib.hid ⟨HF8.out.save hs9 hlmo.symm, hl9.congr fun r => (use_is hme r).trans (by rw [HBN.out r]), save_new HS8.out hs9 HLz.out⟩
              clear hl9 hs9 hme HU8
              go_wp2_with fail
              go_roundw
              case rel => exact ⟨i, by omega, by go_num, HE.out⟩
              case measure => simp [intOf]
        · go_wp2_with fail
          have hpc := HSj.out.cell hmoP pP
          have hoc := HSj.out.cell hmoB pO
          have HLook := Lib.hid (look_any ls (some ⟨cb, coff, none⟩) cap b i Bp Bo mo lm (fun r => behB (atB ls b) i inn r) (Fnd ls inn b (i + 1)) w4 hlt (by rw [HM.out]; exact hil) ((HI2.out.saveP HSj.out HF2.out)) hpc hoc HBj.out HFj.out hlmo (by rw [HXe.out]; exact HX4.out) HBin.out)
          rw [HXe.out] at HLook
          clear hpc hoc
          refine HLook.out.mono ?_; rintro e w5 ⟨rfl, hf5, hs5⟩
          have hx5 := HXj.out.save hs5 hqmo
          have HL5 := Lib.hid (HBj.out.save hs5 hlmo)
          have HF5 := Lib.hid (hf5.congr HStep.out)
          have HS5 := Lib.hid (HSj.out.trans hs5)
          have HX5 := Lib.hid hx5
          obtain ⟨y0, y1, y2, y3, y4, y5⟩ := hx5
          simp only [Nat.zero_add] at y1 y2 y3 y4 y5
          clear hf5 hs5 HLook
          go_wp2_with fail
          refine (HDef.out _).mono ?_; rintro e w6 ⟨rfl, hb6⟩
          have HL6 := Lib.hid (HL5.out.below hb6); have HF6 := Lib.hid (HF5.out.below hb6); have HS6 := Lib.hid (HS5.out.trans (Save.of_below hb6)); have HX6 := Lib.hid (HX5.out.keep hb6)
          obtain ⟨z0, z1, z2, z3, z4, z5⟩ := HX6.out
          simp only [Nat.zero_add] at z1 z2 z3 z4 z5
          clear hb6 y0 y1 y2 y3 y4 y5
          obtain ⟨fl, hfl, hfls⟩ := HL6.out
          have HfL := Lib.hid hfl; have HfS := Lib.hid hfls
          clear hfl hfls
          have HDl := Lib.hid (del_is (B := fun r => behB (atB ls b) i inn r) hd)
          rw [hd]
          go_wp2_with (at_delete; refine wpList_del_map _ rfl _ _ 99 rfl Try.underlying99 intKind lm fl HfL.out rfl x.d (HKd.out hd) rfl ?_; intro w7 hl7 ht7; have hs7 := save_turned ht7; have HL7 : Hid (SetI w7 lm fun r => (!defB x r && behB (atB ls b) i inn r) = true) := Lib.hid ⟨_, hl7, fun r => ((delF_some _ _ _).trans (and_congr Iff.rfl (HfS.out r))).trans (HDl.out r)⟩; have HF7 := Lib.hid (HF6.out.save hs7 hlmo.symm); have HS7 : Hid (Save mo w2 w7) := Lib.hid (save_new HS6.out hs7 HLz.out); have HX7 := Lib.hid (HX6.out.save hs7 hqlm); obtain ⟨v0, v1, v2, v3, v4, v5⟩ := HX7.out; simp only [Nat.zero_add] at v1 v2 v3 v4 v5; clear hl7 ht7 hs7 z0 z1 z2 z3 z4 z5)
          refine (HUse.out _).mono ?_; rintro e w8 ⟨⟨v, rfl, ho⟩, hb8⟩
          have HL8 := Lib.hid (HL7.out.below hb8); have HF8 := Lib.hid (HF7.out.below hb8); have HS8 := Lib.hid (HS7.out.trans (Save.of_below hb8))
          obtain ⟨ua, uc, rfl⟩ := owns_shape ho
          have HU8 := Lib.hid (rowAt_owns ho (q := lm) HL7.out.lt)
          have hul := usesL_len x
          have HUin := HXs
          clear ho hb8
          go_wp2_with fail
          go_loopw [87] (fun c wr => ∃ m2 : Nat, m2 ≤ (usesL x).length ∧ c = .int .i64 m2 ∧ SetI wr lm (fun r => (!defB x r && behB (atB ls b) i inn r) = true ∨ r ∈ (usesL x).take m2) ∧ Save lm w8 wr) (fun c _ => (usesL x).length - (intOf c).toNat)
          case atStart => exact ⟨0, Nat.zero_le _, rfl, HL8.out.congr fun r => (by simp), Save.refl _ _⟩
          case round =>
            obtain ⟨m2, hm2, rfl, hl9, hs9⟩ := hrel
            by_cases hlt2 : m2 < (usesL x).length
            · obtain ⟨a', cap', e', hi', _⟩ := RowAt.save HU8.out hs9
              cases e'
              obtain ⟨ub, uoff, rfl, hcu⟩ := hi' m2 hlt2
              have hrn := HUin.out ((usesL x).getD m2 0) (by rw [List.getD_eq_getElem?_getD, List.getElem?_eq_getElem hlt2]; exact List.getElem_mem hlt2)
              have HAdd := Lib.hid (addRow_step (S := fun r => (!defB x r && behB (atB ls b) i inn r) = true) hlt2)
              obtain ⟨fu, hfu, hfus⟩ := hl9
              have HfU := Lib.hid hfu; have HfUS := Lib.hid hfus; have HS9 := Lib.hid hs9
              clear hfu hfus hs9 hi'
              have hml : (m2 : Int) < (usesL x).length := by omega
              generalize hlen : (usesL x).length = ul at *
              clear hlen
              generalize (usesL x).getD m2 0 = rn at *
              have HKn : Hid (KV rn) := Lib.hid (by unfold KV; omega)
              go_wp2_with (at_mapUpdate; refine wpList_put_map _ rfl _ _ _ 99 rfl Try.underlying99 intKind boolKind allI allI_mem allI_len lm fu HfU.out rfl rn () HKn.out trivial rfl rfl ?_; intro w9 hl9 hg9)
              have HL9 : Hid (SetI w9 lm _) := Lib.hid ⟨_, hl9, fun r => ((updF_some _ _ _ _).trans (or_congr Iff.rfl (HfUS.out r))).trans (HAdd.out r)⟩
              have HS9' := Lib.hid (HS9.out.trans (save_grownB hg9))
              clear hl9 hg9
              go_roundw
              case rel => exact ⟨m2 + 1, by omega, by go_num, HL9.out, HS9'.out⟩
              case measure => simp [intOf]; omega
            · have hme : m2 = (usesL x).length := by omega
              have HE : Hid (LivSt ls inn w2 mo lm b i wr) := Lib.hid ⟨HF8.out.save hs9 hlmo.symm, hl9.congr fun r => (use_is hme r).trans (by rw [HBN.out r]), save_new HS8.out hs9 HLz.out⟩
              clear hl9 hs9 hme HU8
              go_wp2_with fail
              go_roundw
              case rel => exact ⟨i, by omega, by go_num, HE.out⟩
              case measure => simp [intOf]
      · have hT : fT x.op = true := by cases h : fT x.op <;> simp_all
        cases f24 : (x.op == 24)
        · have f25 : (x.op == 25) = true := by unfold fT at hT; have := of_decide_eq_true hT; have := beq_eq_false_iff_ne.1 f24; rw [beq_iff_eq]; omega
          rw [hT] at HBe
          obtain ⟨ht0, ht1⟩ := HTo.out hT
          obtain ⟨tn, htn⟩ : ∃ tn : Nat, x.to = tn := ⟨x.to.toNat, by omega⟩
          have hd : fD x.op = false := fT_fD hT
          have hRw := (HRows.out.saveP HS4.out HF2.out) tn (by omega)
          obtain ⟨rb, roff, ra, rc, hre, hrc, hri⟩ := hRw
          subst hre
          rw [htn] at x5 HBe
          have htl : (tn : Int) < (ls.length : Int) := by omega
          have hrl := HRowL.out tn
          have HTb : Hid (∀ r, inn (tn : Int) r = decide (r ∈ L.getD tn [])) := Lib.hid (HTab.out tn)
          have HRIn : Hid (∀ r ∈ L.getD tn [], 0 ≤ r ∧ r < regs) := Lib.hid fun r hr => HInn.out tn r (by rw [HTab.out]; exact decide_eq_true hr)
          have HRi := Lib.hid hri
          clear hri htn ht0 ht1
          generalize L.getD tn [] = row at *
          go_wp2_with fail
          go_loopw [12, 59] (fun _ c wr => ∃ m2 : Nat, m2 ≤ row.length ∧ c = .int .i64 m2 ∧ SetI wr lm (fun r => liveL ((atB ls b).drop (i + 1)) inn r = true ∨ r ∈ row.take m2) ∧ Save lm w4 wr) (fun _ c _ => row.length - (intOf c).toNat)
          case atStart => exact ⟨0, Nat.zero_le _, rfl, HL4.out.congr fun r => (by simp), Save.refl _ _⟩
          case round =>
            obtain ⟨m2, hm2, rfl, hl9, hs9⟩ := hrel
            by_cases hlt2 : m2 < row.length
            · obtain ⟨ub, uoff, rfl, hcu⟩ := HRi.out m2 hlt2
              have hcu2 := hs9.cell (HL4.out.ne hcu) hcu
              have hrn := HRIn.out (row.getD m2 0) (by rw [List.getD_eq_getElem?_getD, List.getElem?_eq_getElem hlt2]; exact List.getElem_mem hlt2)
              have HAdd := Lib.hid (addRow_step (S := fun r => liveL ((atB ls b).drop (i + 1)) inn r = true) hlt2)
              obtain ⟨fu, hfu, hfus⟩ := hl9
              have HfU := Lib.hid hfu; have HfUS := Lib.hid hfus; have HS9 := Lib.hid hs9
              clear hfu hfus hs9 hcu
              have hml : (m2 : Int) < row.length := by omega
              generalize hlen : row.length = ul at *
              clear hlen
              generalize row.getD m2 0 = rn at *
              have HKn : Hid (KV rn) := Lib.hid (by unfold KV; omega)
              go_wp2_with (at_mapUpdate; refine wpList_put_map _ rfl _ _ _ 99 rfl Try.underlying99 intKind boolKind allI allI_mem allI_len lm fu HfU.out rfl rn () HKn.out trivial rfl rfl ?_; intro w9 hl9 hg9)
              have HL9 : Hid (SetI w9 lm _) := Lib.hid ⟨_, hl9, fun r => ((updF_some _ _ _ _).trans (or_congr Iff.rfl (HfUS.out r))).trans (HAdd.out r)⟩
              have HS9' := Lib.hid (HS9.out.trans (save_grownB hg9))
              clear hl9 hg9
              go_roundw
              case rel => exact ⟨m2 + 1, by omega, by go_num, HL9.out, HS9'.out⟩
              case measure => simp [intOf]; omega
            · have hme : m2 = row.length := by omega
              have HBj : Hid (SetI wr lm fun r => behB (atB ls b) i inn r = true) := Lib.hid (hl9.congr fun r => by rw [HBe.out, HTb.out, hme, List.take_length]; simp)
              have HFj := Lib.hid (HF4.out.save hs9 hlmo.symm)
              have HSj := Lib.hid (save_new HS4.out hs9 HLz.out)
              have HXj := Lib.hid (HX4'.out.save hs9 hqlm)
              obtain ⟨wJ, hwJ⟩ : ∃ wJ, wr = wJ := ⟨_, rfl⟩
              rw [hwJ] at HBj HFj HSj HXj ⊢
              obtain ⟨x0, x1, x2, x3, x4, x5⟩ := HXj.out
              simp only [Nat.zero_add] at x1 x2 x3 x4 x5
              clear hl9 hs9 hme hwJ
              go_wp2_with fail
              have hpc := HSj.out.cell hmoP pP
              have hoc := HSj.out.cell hmoB pO
              have HLook := Lib.hid (look_any ls (some ⟨cb, coff, none⟩) cap b i Bp Bo mo lm (fun r => behB (atB ls b) i inn r) (Fnd ls inn b (i + 1)) wJ hlt (by rw [HM.out]; exact hil) ((HI2.out.saveP HSj.out HF2.out)) hpc hoc HBj.out HFj.out hlmo (by rw [HXe.out]; exact HX4.out) HBin.out)
              rw [HXe.out] at HLook
              clear hpc hoc
              refine HLook.out.mono ?_; rintro e w5 ⟨rfl, hf5, hs5⟩
              have hx5 := HXj.out.save hs5 hqmo
              have HL5 := Lib.hid (HBj.out.save hs5 hlmo)
              have HF5 := Lib.hid (hf5.congr HStep.out)
              have HS5 := Lib.hid (HSj.out.trans hs5)
              have HX5 := Lib.hid hx5
              obtain ⟨y0, y1, y2, y3, y4, y5⟩ := hx5
              simp only [Nat.zero_add] at y1 y2 y3 y4 y5
              clear hf5 hs5 HLook
              go_wp2_with fail
              refine (HDef.out _).mono ?_; rintro e w6 ⟨rfl, hb6⟩
              have HL6 := Lib.hid (HL5.out.below hb6); have HF6 := Lib.hid (HF5.out.below hb6); have HS6 := Lib.hid (HS5.out.trans (Save.of_below hb6)); have HX6 := Lib.hid (HX5.out.keep hb6)
              obtain ⟨z0, z1, z2, z3, z4, z5⟩ := HX6.out
              simp only [Nat.zero_add] at z1 z2 z3 z4 z5
              clear hb6 y0 y1 y2 y3 y4 y5
              have HL7 : Hid (SetI w6 lm fun r => (!defB x r && behB (atB ls b) i inn r) = true) := Lib.hid (HL6.out.congr (keep_is (B := fun r => behB (atB ls b) i inn r) hd))
              have HF7 := HF6; have HS7 := HS6; have HX7 := HX6
              rw [hd]
              go_wp2_with fail
              refine (HUse.out _).mono ?_; rintro e w8 ⟨⟨v, rfl, ho⟩, hb8⟩
              have HL8 := Lib.hid (HL7.out.below hb8); have HF8 := Lib.hid (HF7.out.below hb8); have HS8 := Lib.hid (HS7.out.trans (Save.of_below hb8))
              obtain ⟨ua, uc, rfl⟩ := owns_shape ho
              have HU8 := Lib.hid (rowAt_owns ho (q := lm) HL7.out.lt)
              have hul := usesL_len x
              have HUin := HXs
              clear ho hb8
              go_wp2_with fail
              go_loopw [87] (fun c wr => ∃ m2 : Nat, m2 ≤ (usesL x).length ∧ c = .int .i64 m2 ∧ SetI wr lm (fun r => (!defB x r && behB (atB ls b) i inn r) = true ∨ r ∈ (usesL x).take m2) ∧ Save lm w8 wr) (fun c _ => (usesL x).length - (intOf c).toNat)
              case atStart => exact ⟨0, Nat.zero_le _, rfl, HL8.out.congr fun r => (by simp), Save.refl _ _⟩
              case round =>
                obtain ⟨m2, hm2, rfl, hl9, hs9⟩ := hrel
                by_cases hlt2 : m2 < (usesL x).length
                · obtain ⟨a', cap', e', hi', _⟩ := RowAt.save HU8.out hs9
                  cases e'
                  obtain ⟨ub, uoff, rfl, hcu⟩ := hi' m2 hlt2
                  have hrn := HUin.out ((usesL x).getD m2 0) (by rw [List.getD_eq_getElem?_getD, List.getElem?_eq_getElem hlt2]; exact List.getElem_mem hlt2)
                  have HAdd := Lib.hid (addRow_step (S := fun r => (!defB x r && behB (atB ls b) i inn r) = true) hlt2)
                  obtain ⟨fu, hfu, hfus⟩ := hl9
                  have HfU := Lib.hid hfu; have HfUS := Lib.hid hfus; have HS9 := Lib.hid hs9
                  clear hfu hfus hs9 hi'
                  have hml : (m2 : Int) < (usesL x).length := by omega
                  generalize hlen : (usesL x).length = ul at *
                  clear hlen
                  generalize (usesL x).getD m2 0 = rn at *
                  have HKn : Hid (KV rn) := Lib.hid (by unfold KV; omega)
                  go_wp2_with (at_mapUpdate; refine wpList_put_map _ rfl _ _ _ 99 rfl Try.underlying99 intKind boolKind allI allI_mem allI_len lm fu HfU.out rfl rn () HKn.out trivial rfl rfl ?_; intro w9 hl9 hg9)
                  have HL9 : Hid (SetI w9 lm _) := Lib.hid ⟨_, hl9, fun r => ((updF_some _ _ _ _).trans (or_congr Iff.rfl (HfUS.out r))).trans (HAdd.out r)⟩
                  have HS9' := Lib.hid (HS9.out.trans (save_grownB hg9))
                  clear hl9 hg9
                  go_roundw
                  case rel => exact ⟨m2 + 1, by omega, by go_num, HL9.out, HS9'.out⟩
                  case measure => simp [intOf]; omega
                · have hme : m2 = (usesL x).length := by omega
                  have HE : Hid (LivSt ls inn w2 mo lm b i wr) := Lib.hid ⟨HF8.out.save hs9 hlmo.symm, hl9.congr fun r => (use_is hme r).trans (by rw [HBN.out r]), save_new HS8.out hs9 HLz.out⟩
                  clear hl9 hs9 hme HU8
                  go_wp2_with fail
                  go_roundw
                  case rel => exact ⟨i, by omega, by go_num, HE.out⟩
                  case measure => simp [intOf]
        · have f25 : (x.op == 25) = false := by have := beq_iff_eq.1 f24; rw [beq_eq_false_iff_ne]; omega
          rw [hT] at HBe
          obtain ⟨ht0, ht1⟩ := HTo.out hT
          obtain ⟨tn, htn⟩ : ∃ tn : Nat, x.to = tn := ⟨x.to.toNat, by omega⟩
          have hd : fD x.op = false := fT_fD hT
          have hRw := (HRows.out.saveP HS4.out HF2.out) tn (by omega)
          obtain ⟨rb, roff, ra, rc, hre, hrc, hri⟩ := hRw
          subst hre
          rw [htn] at x5 HBe
          have htl : (tn : Int) < (ls.length : Int) := by omega
          have hrl := HRowL.out tn
          have HTb : Hid (∀ r, inn (tn : Int) r = decide (r ∈ L.getD tn [])) := Lib.hid (HTab.out tn)
          have HRIn : Hid (∀ r ∈ L.getD tn [], 0 ≤ r ∧ r < regs) := Lib.hid fun r hr => HInn.out tn r (by rw [HTab.out]; exact decide_eq_true hr)
          have HRi := Lib.hid hri
          clear hri htn ht0 ht1
          generalize L.getD tn [] = row at *
          go_wp2_with fail
          go_loopw [12, 59] (fun _ c wr => ∃ m2 : Nat, m2 ≤ row.length ∧ c = .int .i64 m2 ∧ SetI wr lm (fun r => liveL ((atB ls b).drop (i + 1)) inn r = true ∨ r ∈ row.take m2) ∧ Save lm w4 wr) (fun _ c _ => row.length - (intOf c).toNat)
          case atStart => exact ⟨0, Nat.zero_le _, rfl, HL4.out.congr fun r => (by simp), Save.refl _ _⟩
          case round =>
            obtain ⟨m2, hm2, rfl, hl9, hs9⟩ := hrel
            by_cases hlt2 : m2 < row.length
            · obtain ⟨ub, uoff, rfl, hcu⟩ := HRi.out m2 hlt2
              have hcu2 := hs9.cell (HL4.out.ne hcu) hcu
              have hrn := HRIn.out (row.getD m2 0) (by rw [List.getD_eq_getElem?_getD, List.getElem?_eq_getElem hlt2]; exact List.getElem_mem hlt2)
              have HAdd := Lib.hid (addRow_step (S := fun r => liveL ((atB ls b).drop (i + 1)) inn r = true) hlt2)
              obtain ⟨fu, hfu, hfus⟩ := hl9
              have HfU := Lib.hid hfu; have HfUS := Lib.hid hfus; have HS9 := Lib.hid hs9
              clear hfu hfus hs9 hcu
              have hml : (m2 : Int) < row.length := by omega
              generalize hlen : row.length = ul at *
              clear hlen
              generalize row.getD m2 0 = rn at *
              have HKn : Hid (KV rn) := Lib.hid (by unfold KV; omega)
              go_wp2_with (at_mapUpdate; refine wpList_put_map _ rfl _ _ _ 99 rfl Try.underlying99 intKind boolKind allI allI_mem allI_len lm fu HfU.out rfl rn () HKn.out trivial rfl rfl ?_; intro w9 hl9 hg9)
              have HL9 : Hid (SetI w9 lm _) := Lib.hid ⟨_, hl9, fun r => ((updF_some _ _ _ _).trans (or_congr Iff.rfl (HfUS.out r))).trans (HAdd.out r)⟩
              have HS9' := Lib.hid (HS9.out.trans (save_grownB hg9))
              clear hl9 hg9
              go_roundw
              case rel => exact ⟨m2 + 1, by omega, by go_num, HL9.out, HS9'.out⟩
              case measure => simp [intOf]; omega
            · have hme : m2 = row.length := by omega
              have HBj : Hid (SetI wr lm fun r => behB (atB ls b) i inn r = true) := Lib.hid (hl9.congr fun r => by rw [HBe.out, HTb.out, hme, List.take_length]; simp)
              have HFj := Lib.hid (HF4.out.save hs9 hlmo.symm)
              have HSj := Lib.hid (save_new HS4.out hs9 HLz.out)
              have HXj := Lib.hid (HX4'.out.save hs9 hqlm)
              obtain ⟨wJ, hwJ⟩ : ∃ wJ, wr = wJ := ⟨_, rfl⟩
              rw [hwJ] at HBj HFj HSj HXj ⊢
              obtain ⟨x0, x1, x2, x3, x4, x5⟩ := HXj.out
              simp only [Nat.zero_add] at x1 x2 x3 x4 x5
              clear hl9 hs9 hme hwJ
              go_wp2_with fail
              have hpc := HSj.out.cell hmoP pP
              have hoc := HSj.out.cell hmoB pO
              have HLook := Lib.hid (look_any ls (some ⟨cb, coff, none⟩) cap b i Bp Bo mo lm (fun r => behB (atB ls b) i inn r) (Fnd ls inn b (i + 1)) wJ hlt (by rw [HM.out]; exact hil) ((HI2.out.saveP HSj.out HF2.out)) hpc hoc HBj.out HFj.out hlmo (by rw [HXe.out]; exact HX4.out) HBin.out)
              rw [HXe.out] at HLook
              clear hpc hoc
              refine HLook.out.mono ?_; rintro e w5 ⟨rfl, hf5, hs5⟩
              have hx5 := HXj.out.save hs5 hqmo
              have HL5 := Lib.hid (HBj.out.save hs5 hlmo)
              have HF5 := Lib.hid (hf5.congr HStep.out)
              have HS5 := Lib.hid (HSj.out.trans hs5)
              have HX5 := Lib.hid hx5
              obtain ⟨y0, y1, y2, y3, y4, y5⟩ := hx5
              simp only [Nat.zero_add] at y1 y2 y3 y4 y5
              clear hf5 hs5 HLook
              go_wp2_with fail
              refine (HDef.out _).mono ?_; rintro e w6 ⟨rfl, hb6⟩
              have HL6 := Lib.hid (HL5.out.below hb6); have HF6 := Lib.hid (HF5.out.below hb6); have HS6 := Lib.hid (HS5.out.trans (Save.of_below hb6)); have HX6 := Lib.hid (HX5.out.keep hb6)
              obtain ⟨z0, z1, z2, z3, z4, z5⟩ := HX6.out
              simp only [Nat.zero_add] at z1 z2 z3 z4 z5
              clear hb6 y0 y1 y2 y3 y4 y5
              have HL7 : Hid (SetI w6 lm fun r => (!defB x r && behB (atB ls b) i inn r) = true) := Lib.hid (HL6.out.congr (keep_is (B := fun r => behB (atB ls b) i inn r) hd))
              have HF7 := HF6; have HS7 := HS6; have HX7 := HX6
              rw [hd]
              go_wp2_with fail
              refine (HUse.out _).mono ?_; rintro e w8 ⟨⟨v, rfl, ho⟩, hb8⟩
              have HL8 := Lib.hid (HL7.out.below hb8); have HF8 := Lib.hid (HF7.out.below hb8); have HS8 := Lib.hid (HS7.out.trans (Save.of_below hb8))
              obtain ⟨ua, uc, rfl⟩ := owns_shape ho
              have HU8 := Lib.hid (rowAt_owns ho (q := lm) HL7.out.lt)
              have hul := usesL_len x
              have HUin := HXs
              clear ho hb8
              go_wp2_with fail
              go_loopw [87] (fun c wr => ∃ m2 : Nat, m2 ≤ (usesL x).length ∧ c = .int .i64 m2 ∧ SetI wr lm (fun r => (!defB x r && behB (atB ls b) i inn r) = true ∨ r ∈ (usesL x).take m2) ∧ Save lm w8 wr) (fun c _ => (usesL x).length - (intOf c).toNat)
              case atStart => exact ⟨0, Nat.zero_le _, rfl, HL8.out.congr fun r => (by simp), Save.refl _ _⟩
              case round =>
                obtain ⟨m2, hm2, rfl, hl9, hs9⟩ := hrel
                by_cases hlt2 : m2 < (usesL x).length
                · obtain ⟨a', cap', e', hi', _⟩ := RowAt.save HU8.out hs9
                  cases e'
                  obtain ⟨ub, uoff, rfl, hcu⟩ := hi' m2 hlt2
                  have hrn := HUin.out ((usesL x).getD m2 0) (by rw [List.getD_eq_getElem?_getD, List.getElem?_eq_getElem hlt2]; exact List.getElem_mem hlt2)
                  have HAdd := Lib.hid (addRow_step (S := fun r => (!defB x r && behB (atB ls b) i inn r) = true) hlt2)
                  obtain ⟨fu, hfu, hfus⟩ := hl9
                  have HfU := Lib.hid hfu; have HfUS := Lib.hid hfus; have HS9 := Lib.hid hs9
                  clear hfu hfus hs9 hi'
                  have hml : (m2 : Int) < (usesL x).length := by omega
                  generalize hlen : (usesL x).length = ul at *
                  clear hlen
                  generalize (usesL x).getD m2 0 = rn at *
                  have HKn : Hid (KV rn) := Lib.hid (by unfold KV; omega)
                  go_wp2_with (at_mapUpdate; refine wpList_put_map _ rfl _ _ _ 99 rfl Try.underlying99 intKind boolKind allI allI_mem allI_len lm fu HfU.out rfl rn () HKn.out trivial rfl rfl ?_; intro w9 hl9 hg9)
                  have HL9 : Hid (SetI w9 lm _) := Lib.hid ⟨_, hl9, fun r => ((updF_some _ _ _ _).trans (or_congr Iff.rfl (HfUS.out r))).trans (HAdd.out r)⟩
                  have HS9' := Lib.hid (HS9.out.trans (save_grownB hg9))
                  clear hl9 hg9
                  go_roundw
                  case rel => exact ⟨m2 + 1, by omega, by go_num, HL9.out, HS9'.out⟩
                  case measure => simp [intOf]; omega
                · have hme : m2 = (usesL x).length := by omega
                  have HE : Hid (LivSt ls inn w2 mo lm b i wr) := Lib.hid ⟨HF8.out.save hs9 hlmo.symm, hl9.congr fun r => (use_is hme r).trans (by rw [HBN.out r]), save_new HS8.out hs9 HLz.out⟩
                  clear hl9 hs9 hme HU8
                  go_wp2_with fail
                  go_roundw
                  case rel => exact ⟨i, by omega, by go_num, HE.out⟩
                  case measure => simp [intOf]
end Go.Proofs.Ytjfpaelmcepidaa.PK
