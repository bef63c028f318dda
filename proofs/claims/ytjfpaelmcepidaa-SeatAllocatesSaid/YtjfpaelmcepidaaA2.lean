/- Clashes. -/
import Derived.Test.YtjfpaelmcepidaaVS
import Derived.Test.YtjfpaelmcepidaaJ1
import Derived.Test.YtjfpaelmcepidaaKH
import Derived.Test.YtjfpaelmcepidaaSF
import Derived.StillTailTactics
namespace Go.Proofs.Ytjfpaelmcepidaa.PK

/-- The registers that may be read behind instruction i. -/
def behB (l : List Cd) (i : Nat) (inn : Int → Int → Bool) (r : Int) : Bool := liveL (l.drop (i + 1)) inn r || (fT (atC l i).op && inn (atC l i).to r)
theorem behB_next {l : List Cd} {i : Nat} (h : i < l.length) (inn : Int → Int → Bool) (r : Int) : liveL (l.drop i) inn r = (usesB (atC l i) r || (!defB (atC l i) r && behB l i inn r)) := by
  rw [liveL_drop l i h]
  unfold behB
  cases hT : fT (atC l i).op
  · simp
  · rw [defB_fT hT]
    cases usesB (atC l i) r <;> simp
/-- Whether a register that may be read behind an instruction clashes with what it writes. -/
def okC (x : Cd) (B : Int → Bool) (r : Int) : Bool := B r && !decide (r = x.d) && !(decide (x.op = 1) && decide (r = x.a))
/-- Whether an instruction makes two registers clash. -/
def PairC (x : Cd) (B : Int → Bool) (p : Int × Int) : Prop := fD x.op = true ∧ ∃ r, okC x B r = true ∧ p = (min r x.d, max r x.d)
/-- What has been found before instruction i of block b (backward through a block, forward through the blocks). -/
def Fnd (ls : List (List Cd)) (inn : Int → Int → Bool) (b i : Nat) (p : Int × Int) : Prop :=
  ∃ b' i', i' < (atB ls b').length ∧ (b' < b ∨ (b' = b ∧ i ≤ i')) ∧ PairC (atC (atB ls b') i') (behB (atB ls b') i' inn) p
theorem Fnd.start (ls : List (List Cd)) (inn : Int → Int → Bool) (p : Int × Int) : ¬ Fnd ls inn 0 (atB ls 0).length p := by
  rintro ⟨b', i', h1, h2 | ⟨rfl, h2⟩, _⟩ <;> omega
theorem Fnd.turn (ls : List (List Cd)) (inn : Int → Int → Bool) (b : Nat) (p : Int × Int) : Fnd ls inn (b + 1) (atB ls (b + 1)).length p ↔ Fnd ls inn b 0 p := by
  constructor
  · rintro ⟨b', i', h1, h2, h3⟩
    refine ⟨b', i', h1, ?_, h3⟩
    rcases h2 with h2 | ⟨rfl, h2⟩
    · by_cases c : b' = b
      · exact .inr ⟨c, Nat.zero_le _⟩
      · exact .inl (by omega)
    · omega
  · rintro ⟨b', i', h1, h2, h3⟩
    refine ⟨b', i', h1, .inl ?_, h3⟩
    rcases h2 with h2 | ⟨rfl, h2⟩ <;> omega
theorem Fnd.step {ls : List (List Cd)} {inn : Int → Int → Bool} {b i : Nat} (h : i < (atB ls b).length) (p : Int × Int) : Fnd ls inn b i p ↔ (Fnd ls inn b (i + 1) p ∨ PairC (atC (atB ls b) i) (behB (atB ls b) i inn) p) := by
  constructor
  · rintro ⟨b', i', h1, h2, h3⟩
    by_cases c : b' = b ∧ i' = i
    · obtain ⟨rfl, rfl⟩ := c; exact .inr h3
    · refine .inl ⟨b', i', h1, ?_, h3⟩
      rcases h2 with h2 | ⟨h2, h4⟩
      · exact .inl h2
      · exact .inr ⟨h2, by omega⟩
  · rintro (⟨b', i', h1, h2, h3⟩ | h3)
    · refine ⟨b', i', h1, ?_, h3⟩
      rcases h2 with h2 | ⟨h2, h4⟩
      · exact .inl h2
      · exact .inr ⟨h2, by omega⟩
    · exact ⟨b, i, h, .inr ⟨rfl, Nat.le_refl _⟩, h3⟩
/-- Two registers clash. -/
def Clashes (ls : List (List Cd)) (inn : Int → Int → Bool) (p : Int × Int) : Prop := Fnd ls inn ls.length (atB ls ls.length).length p
theorem PairC.lt {x : Cd} {B : Int → Bool} {p : Int × Int} (h : PairC x B p) : p.1 < p.2 := by
  obtain ⟨_, r, h, rfl⟩ := h
  unfold okC at h
  simp at h
  simp; omega
theorem Fnd.lt {ls : List (List Cd)} {inn : Int → Int → Bool} {b i : Nat} {p : Int × Int} (h : Fnd ls inn b i p) : p.1 < p.2 := by
  obtain ⟨_, _, _, _, h⟩ := h
  exact h.lt
/-- What is within bounds. -/
def InR (regs : Int) (p : Int × Int) : Prop := 0 ≤ p.1 ∧ p.1 < regs ∧ 0 ≤ p.2 ∧ p.2 < regs
theorem PairC.inR {x : Cd} {B : Int → Bool} {p : Int × Int} {regs : Int} (h : PairC x B p) (hB : ∀ r, B r = true → 0 ≤ r ∧ r < regs) (hd : fD x.op = true → 0 ≤ x.d ∧ x.d < regs) : InR regs p := by
  obtain ⟨h0, r, h, rfl⟩ := h
  have h2 := hd h0
  unfold okC at h
  simp at h
  have h1 := hB r h.1.1
  unfold InR
  simp; omega
/-- What a table says of a register. -/
def tabI (L : List (List Int)) (b r : Int) : Bool := decide (r ∈ L.getD b.toNat [])
theorem liveL_in {inn : Int → Int → Bool} {regs : Int} (hi : ∀ b r, inn b r = true → 0 ≤ r ∧ r < regs) : ∀ (l : List Cd) (r : Int), (∀ x ∈ l, ∀ u ∈ usesL x, 0 ≤ u ∧ u < regs) → liveL l inn r = true → 0 ≤ r ∧ r < regs
  | [], _, _, h => by cases h
  | x :: l, r, hu, h => by
    unfold liveL at h
    simp only [Bool.or_eq_true, Bool.and_eq_true] at h
    rcases h with (h | ⟨_, h⟩) | ⟨_, h⟩
    · exact hu x (by simp) r (by unfold usesB at h; simpa using h)
    · exact liveL_in hi l r (fun y hy => hu y (by simp [hy])) h
    · exact hi _ _ h
end Go.Proofs.Ytjfpaelmcepidaa.PK
namespace Go.Proofs.Ytjfpaelmcepidaa.PK
open Go.RowKit Go.Maps

theorem relC_skip {x : Cd} {B : Int → Bool} {F : Int × Int → Prop} {zs : List Int} {z : Int} (h : okC x B z = false) (p : Int × Int) : (F p ∨ ∃ y ∈ zs, okC x B y = true ∧ p = (min y x.d, max y x.d)) ↔ (F p ∨ ∃ y ∈ zs ++ [z], okC x B y = true ∧ p = (min y x.d, max y x.d)) := by
  constructor
  · rintro (h1 | ⟨y, h1, h2⟩)
    · exact .inl h1
    · exact .inr ⟨y, List.mem_append_left _ h1, h2⟩
  · rintro (h1 | ⟨y, h1, h2, h3⟩)
    · exact .inl h1
    · rcases List.mem_append.1 h1 with h1 | h1
      · exact .inr ⟨y, h1, h2, h3⟩
      · obtain rfl : y = z := by simpa using h1
        rw [h] at h2; cases h2
theorem relC_put {x : Cd} {B : Int → Bool} {F : Int × Int → Prop} {zs : List Int} {z : Int} (h : okC x B z = true) (p : Int × Int) : (p = (min z x.d, max z x.d) ∨ (F p ∨ ∃ y ∈ zs, okC x B y = true ∧ p = (min y x.d, max y x.d))) ↔ (F p ∨ ∃ y ∈ zs ++ [z], okC x B y = true ∧ p = (min y x.d, max y x.d)) := by
  constructor
  · rintro (h1 | h1 | ⟨y, h1, h2⟩)
    · exact .inr ⟨z, by simp, h, h1⟩
    · exact .inl h1
    · exact .inr ⟨y, List.mem_append_left _ h1, h2⟩
  · rintro (h1 | ⟨y, h1, h2, h3⟩)
    · exact .inr (.inl h1)
    · rcases List.mem_append.1 h1 with h1 | h1
      · exact .inr (.inr ⟨y, h1, h2, h3⟩)
      · obtain rfl : y = z := by simpa using h1
        exact .inl h3
theorem save_next {w w' w'' : World} {mo r : Nat} (h : Save mo w w') (hg : w'.grownBy w'' (some r)) (hr : w.heap.size ≤ r) : Save mo w w'' :=
  ⟨hg.os.trans h.os, hg.tape.trans h.tape, hg.output.trans h.output, Nat.le_trans h.size hg.size, fun k hk hq => (hg.block k (Nat.lt_of_lt_of_le hk h.size) (by simp; omega)).trans (h.block k hk hq)⟩
/-- How things stand among the registers that may be read. -/
def LookRel (w1 : World) (lm mo r : Nat) (fL : Int → Option Unit) (x : Cd) (B : Int → Bool) (F : Int × Int → Prop) (wr : World) : Prop :=
  ∃ (left : Lit → Bool) (cnt : Nat) (zs : List Int), RangeAt Try.prog 3 4 keyI litT KV wr lm r fL left cnt ∧ CollS keyI fL left zs ∧ SetP wr mo (fun p => F p ∨ ∃ z ∈ zs, okC x B z = true ∧ p = (min z x.d, max z x.d)) ∧ Save mo w1 wr
set_option maxRecDepth 100000 in
set_option maxHeartbeats 1000000 in
theorem look_any (ls : List (List Cd)) (bl : Option Addr) (cap b i Bp Bo mo lm : Nat) (B : Int → Bool) (F : Int × Int → Prop) (w : World) (hb : b < ls.length) (hi : i < (atB ls b).length)
    (hin : BlkIn w bl ls) (hp : w.cell? ⟨Bp, 1, none⟩ = some (.slice bl ls.length cap)) (ho : w.cell? ⟨Bo, 0, none⟩ = some (.map (some mo)))
    (hL : SetI w lm fun x => B x = true) (hF : SetP w mo F) (hne : lm ≠ mo) (hc : isCodeB (atC (atB ls b) i) 200 400 = true) (hB : ∀ x, B x = true → 0 ≤ x ∧ x < 200) :
    Calls Try.prog 72 #[.int .i64 (b : Int), .int .i64 (i : Int), .map (some lm), .pointer (some ⟨Bp, 0, none⟩), .pointer (some ⟨Bo, 0, none⟩)] w
      fun e w' => e = .returned (.tuple #[]) ∧ SetP w' mo (fun p => F p ∨ PairC (atC (atB ls b) i) B p) ∧ Save mo w w' := by
  obtain ⟨bb, boff, la, lcap, rfl, hcell, hcds⟩ := hin b hb
  obtain ⟨cb, coff, rfl, hx⟩ := hcds i hi
  generalize atC (atB ls b) i = x at *
  generalize (atB ls b).length = m at *
  obtain ⟨x0, x1, x2, x3, x4, x5⟩ := hx
  have hbi : (b : Int) < (ls.length : Int) := by omega
  have hii : (i : Int) < (m : Int) := by omega
  have HD := Lib.hid (Defines_any x hc)
  have HDr := Lib.hid (code_parts hc).2.1
  have HL := Lib.hid hL; have HF := Lib.hid hF; have HB := Lib.hid hB
  clear hL hF hB hin hcds hc
  generalize ls.length = p at *
  go_enter Try.func72, Try.ntmps72
  go_wp2_with fail
  refine (HD.out _).mono ?_; rintro e w1 ⟨rfl, hb1⟩
  have hB1 : Below w.heap.size w w1 := ((Below.refl _ _).alloc (Nat.le_refl _) _).trans (hb1.mono (by simp))
  have k0 := keep ho hB1
  have y0 : w1.cell? ⟨w.heap.size, 0, none⟩ = some (.int .i64 x.op) := keep (by simp [go_sem]) hb1
  have y2 : w1.cell? ⟨w.heap.size, 2, none⟩ = some (.int .i64 x.a) := keep (by simp [go_sem]) hb1
  have HB1 := Lib.hid hB1
  have hq1 : w.heap.size < w1.heap.size := block_lt_of_cell y0
  clear hb1 hB1 hp hcell x0 x1 x2 x3 x4 x5
  cases hd : fD x.op
  · go_wp2_with fail
    refine bodyPost_ret (results_none rfl _ _ _) rfl ?_
    refine ⟨rfl, (HF.out.below HB1.out).congr fun p => ?_, Save.of_below HB1.out⟩
    constructor
    · exact .inl
    · rintro (h | ⟨h, _⟩)
      · exact h
      · rw [hd] at h; cases h
  have HL1 := Lib.hid (HL.out.below HB1.out); have HF1 := Lib.hid (HF.out.below HB1.out)
  obtain ⟨fL, hfL, hfB⟩ := HL1.out
  have HfL := Lib.hid hfL; have HfB := Lib.hid hfB
  have hmoB : Bo ≠ mo := HF1.out.ne k0
  have hmoq : w.heap.size ≠ mo := HF1.out.ne y0
  have hmol := HF.out.lt
  clear hfL hfB
  go_wp2_with (first | (at_range; refine wpList_range_map w1 rfl _ 99 rfl Try.underlying99 intKind lm fL HfL.out rfl ?_; intro w2 left0 cnt0 hr0 hc0 hg0 hs0))
  go_frame
  have HR0 := Lib.hid hr0; have HC0 := Lib.hid hc0
  have HS0 : Hid (Save mo w1 w2) := Lib.hid ⟨hg0.os, hg0.tape, hg0.output, hg0.size, fun k hk _ => hg0.block k hk (by simp)⟩
  have HF2 := Lib.hid (HF1.out.kept hg0 (by simp))
  have HZ2 : Hid (w1.heap.size < w2.heap.size) := Lib.hid (by omega)
  clear hr0 hc0 hg0 hs0
  generalize hr : w1.heap.size = r at *
  have HRr := Lib.hid hr; clear hr
  go_loopw [12] (fun _ wr => LookRel w1 lm mo r fL x B F wr)
    (fun _ wr => wr.rangeLeft lm r)
  case atStart => exact ⟨_, _, [], HR0.out, HC0.out, HF2.out.congr fun p => (by simp), HS0.out⟩
  case round =>
    obtain ⟨left, cnt, zs, hr, hc, hf, hs⟩ := hrel
    have HR := Lib.hid hr; have HC := Lib.hid hc; have HFr := Lib.hid hf; have HS := Lib.hid hs
    have hne3 := hr.ne
    clear hr hc hf hs
    go_wp2_with (first | (at_next; refine wpList_next_map wr rfl _ rfl intKind boolKind lm r cnt fL left rfl HR.out ?_ ?_))
    · intro hl
      have HFin := Lib.hid (HC.out.fin hl)
      clear hl
      go_wp2_with fail
      go_end0
      refine ⟨rfl, HFr.out.congr fun p => ?_, (Save.of_below HB1.out).trans HS.out⟩
      have : (∃ z ∈ zs, okC x B z = true ∧ p = (min z x.d, max z x.d)) ↔ PairC x B p := by
        unfold PairC
        constructor
        · rintro ⟨z, _, h1, h2⟩; exact ⟨hd, z, h1, h2⟩
        · rintro ⟨_, z, h1, h2⟩
          refine ⟨z, (HFin.out z).2 ((HfB.out z).2 ?_), h1, h2⟩
          unfold okC at h1; simp at h1; exact h1.1.1
      rw [this]
    · intro z u w3 cnt3 hvz hfz hlz hr3 hlt3 hg3 hs3 hen
      have HC3 := Lib.hid (HR.out.coll intKind HC.out hfz hlz)
      have hbz : B z = true := (HfB.out z).1 (by rw [hfz]; rfl)
      have HS3 : Hid (Save mo w1 w3) := Lib.hid (save_next HS.out hg3 (by rw [HRr.out]; exact Nat.le_refl _))
      have HR3 := Lib.hid hr3
      have hrm : r ≠ mo := by have := HF1.out.lt; have := HRr.out; omega
      have HF3 := Lib.hid (HFr.out.kept hg3 (by simp; omega))
      have HM := Lib.hid hlt3
      have hzB := HB.out z hbz
      have hdB := HDr.out hd
      have z0 := HS3.out.cell hmoq y0; have z2 := HS3.out.cell hmoq y2; have zk := HS3.out.cell hmoB k0
      clear hr3 hg3 hfz hlz hs3 hlt3
      by_cases e1 : z = x.d
      · have f1 : (z != x.d) = false := by simp [e1]
        have HK : Hid (okC x B z = false) := Lib.hid (by unfold okC; simp [e1])
        clear e1
        go_wp2_with fail
        go_roundw
        case rel => exact ⟨_, cnt3, zs ++ [z], HR3.out, HC3.out, HF3.out.congr (relC_skip HK.out), HS3.out⟩
        case measure => rw [HR3.out.left_eq, HR.out.left_eq]; exact HM.out
      have f1 : (z != x.d) = true := by simp [e1]
      have HV : Hid (PV (min z x.d, max z x.d)) := Lib.hid (by unfold PV KV; simp; omega)
      have HPut : Hid (okC x B z = true → ∀ p, (p = (min z x.d, max z x.d) ∨ (F p ∨ ∃ y ∈ zs, okC x B y = true ∧ p = (min y x.d, max y x.d))) ↔ (F p ∨ ∃ y ∈ zs ++ [z], okC x B y = true ∧ p = (min y x.d, max y x.d))) := Lib.hid relC_put
      obtain ⟨fF, hfF, hfS⟩ := HF3.out
      have HfF := Lib.hid hfF; have HfS := Lib.hid hfS
      clear hfF hfS
      cases f2 : (x.op == 1)
      · have HK : Hid (okC x B z = true) := Lib.hid (by unfold okC; simp [hbz, e1]; left; simpa using f2)
        clear e1
        go_wp2_with (at_mapUpdate; refine wpList_put_map _ rfl _ _ _ 77 rfl Try.underlying77 pairKind boolKind allP allP_mem allP_len mo fF HfF.out rfl (min z x.d, max z x.d) () HV.out trivial rfl rfl ?_; intro w4 hf4 hg4)
        have HF4 : Hid (SetP w4 mo _) := Lib.hid ⟨_, hf4, fun p => ((updF_some _ _ _ _).trans (or_congr Iff.rfl (HfS.out p))).trans (HPut.out HK.out p)⟩
        have HR4 := Lib.hid (HR3.out.kept hg4 (by simp; omega) (by simp; omega))
        have HS4 := Lib.hid (HS3.out.trans (save_grownB hg4))
        clear hf4 hg4
        go_roundw
        case rel => exact ⟨_, cnt3, zs ++ [z], HR4.out, HC3.out, HF4.out, HS4.out⟩
        case measure => rw [HR4.out.left_eq, HR.out.left_eq]; exact HM.out
      cases f3 : (z == x.a)
      · have HK : Hid (okC x B z = true) := Lib.hid (by unfold okC; simp [hbz, e1]; right; simpa using f3)
        clear e1
        go_wp2_with (at_mapUpdate; refine wpList_put_map _ rfl _ _ _ 77 rfl Try.underlying77 pairKind boolKind allP allP_mem allP_len mo fF HfF.out rfl (min z x.d, max z x.d) () HV.out trivial rfl rfl ?_; intro w4 hf4 hg4)
        have HF4 : Hid (SetP w4 mo _) := Lib.hid ⟨_, hf4, fun p => ((updF_some _ _ _ _).trans (or_congr Iff.rfl (HfS.out p))).trans (HPut.out HK.out p)⟩
        have HR4 := Lib.hid (HR3.out.kept hg4 (by simp; omega) (by simp; omega))
        have HS4 := Lib.hid (HS3.out.trans (save_grownB hg4))
        clear hf4 hg4
        go_roundw
        case rel => exact ⟨_, cnt3, zs ++ [z], HR4.out, HC3.out, HF4.out, HS4.out⟩
        case measure => rw [HR4.out.left_eq, HR.out.left_eq]; exact HM.out
      · have HK : Hid (okC x B z = false) := Lib.hid (by
          have h1 : x.op = 1 := by simpa using f2
          have h2 : z = x.a := by simpa using f3
          unfold okC; rw [decide_eq_true h1, decide_eq_true h2]; simp)
        clear e1
        go_wp2_with fail
        go_roundw
        case rel => exact ⟨_, cnt3, zs ++ [z], HR3.out, HC3.out, HF3.out.congr (relC_skip HK.out), HS3.out⟩
        case measure => rw [HR3.out.left_eq, HR.out.left_eq]; exact HM.out
end Go.Proofs.Ytjfpaelmcepidaa.PK
namespace Go.Proofs.Ytjfpaelmcepidaa.PK
open Go.RowKit Go.Maps

theorem BlkIn.saveP {w w' : World} {bl : Option Addr} {ls : List (List Cd)} {mo : Nat} {F : Int × Int → Prop} (h : BlkIn w bl ls) (hs : Save mo w w') (hF : SetP w mo F) : BlkIn w' bl ls := fun k hk => by
  obtain ⟨b, off, a, cap, rfl, hc, hi⟩ := h k hk
  refine ⟨b, off, a, cap, rfl, hs.cell (hF.ne hc) hc, fun j hj => ?_⟩
  obtain ⟨b2, off2, rfl, c⟩ := hi j hj
  exact ⟨b2, off2, rfl, hs.cell (hF.ne c.c0) c.c0, hs.cell (hF.ne c.c1) c.c1, hs.cell (hF.ne c.c2) c.c2, hs.cell (hF.ne c.c3) c.c3, hs.cell (hF.ne c.c4) c.c4, hs.cell (hF.ne c.c5) c.c5⟩
theorem RowsIn.saveP {w w' : World} {a : Option Addr} {g : List (List Int)} {mo : Nat} {F : Int × Int → Prop} (h : RowsIn w a g) (hs : Save mo w w') (hF : SetP w mo F) : RowsIn w' a g := fun k hk => by
  obtain ⟨b, off, a, cap, rfl, hc, hi⟩ := h k hk
  refine ⟨b, off, a, cap, rfl, hs.cell (hF.ne hc) hc, fun j hj => ?_⟩
  obtain ⟨b2, off2, rfl, c⟩ := hi j hj
  exact ⟨b2, off2, rfl, hs.cell (hF.ne c) c⟩
theorem CdAt.save {w w' : World} {q off b : Nat} {x : Cd} (c : CdAt w q off x) (hs : Save b w w') (hq : q ≠ b) : CdAt w' q off x :=
  ⟨hs.cell hq c.c0, hs.cell hq c.c1, hs.cell hq c.c2, hs.cell hq c.c3, hs.cell hq c.c4, hs.cell hq c.c5⟩
theorem picks_in {f : Nat → Bool} {n : Nat} {r : Int} (h : r ∈ picks f n) : 0 ≤ r ∧ r < n := by
  unfold picks at h
  rw [List.mem_map] at h
  obtain ⟨k, hk, rfl⟩ := h
  have := List.mem_range.1 (List.mem_filter.1 hk).1
  omega
theorem LiveOf.mem {ls : List (List Cd)} {regs : Nat} {L : List (List Int)} (h : LiveOf ls regs L) {k : Nat} {r : Int} (hr : r ∈ L.getD k []) : 0 ≤ r ∧ r < regs := by
  obtain ⟨f, _, rfl⟩ := h
  by_cases hk : k < ls.length
  · rw [rowsFn_get _ hk] at hr
    exact picks_in hr
  · rw [List.getD_eq_getElem?_getD, List.getElem?_eq_none (by rw [rowsFn_len]; omega)] at hr
    cases hr
theorem tabI_in {ls : List (List Cd)} {regs : Int} {L : List (List Int)} (h : LiveOf ls regs.toNat L) (h0 : 0 ≤ regs) (b r : Int) (hr : tabI L b r = true) : 0 ≤ r ∧ r < regs := by
  have := h.mem (of_decide_eq_true hr)
  omega
theorem mem_take_succ {l : List Int} {m : Nat} (h : m < l.length) (r : Int) : r ∈ l.take (m + 1) ↔ r = l.getD m 0 ∨ r ∈ l.take m := by
  rw [List.take_succ_eq_append_getElem h, List.mem_append, List.mem_singleton, List.getD_eq_getElem?_getD, List.getElem?_eq_getElem h]
  exact Or.comm
/-- What a range over a list of numbers adds to a set. -/
theorem addRow_step {S : Int → Prop} {l : List Int} {m : Nat} (h : m < l.length) (r : Int) : (r = l.getD m 0 ∨ (S r ∨ r ∈ l.take m)) ↔ (S r ∨ r ∈ l.take (m + 1)) := by
  rw [mem_take_succ h]
  constructor
  · rintro (h | h | h)
    · exact .inr (.inl h)
    · exact .inl h
    · exact .inr (.inr h)
  · rintro (h | h | h)
    · exact .inr (.inl h)
    · exact .inl h
    · exact .inr (.inr h)
end Go.Proofs.Ytjfpaelmcepidaa.PK
namespace Go.Proofs.Ytjfpaelmcepidaa.PK
open Go.RowKit Go.Maps

theorem CdAt.saveP {w w' : World} {q off mo : Nat} {x : Cd} {F : Int × Int → Prop} (c : CdAt w q off x) (hs : Save mo w w') (hF : SetP w mo F) : CdAt w' q off x := c.save hs (hF.ne c.c0)
theorem wi_mono {b : Bool} {lo hi hi' v : Int} (h : wi v b lo hi = true) (hh : hi ≤ hi') : wi v b lo hi' = true := by
  unfold wi at *
  cases b
  · simpa using h
  · simp at h ⊢; omega
theorem isCode_big {x : Cd} {regs n : Int} (h : isCodeB x regs n = true) (hr : regs ≤ 200) (hn : n ≤ 400) : isCodeB x 200 400 = true := by
  unfold isCodeB at *
  simp only [Bool.and_eq_true] at *
  obtain ⟨h0, h1, h2, h3, h4, h5⟩ := h
  exact ⟨h0, wi_mono h1 hr, wi_mono h2 hr, wi_mono h3 hr, wi_mono h4 hn, h5⟩
theorem save_turned {w w' : World} {b : Nat} (h : w.mapTurned w' b) : Save b w w' := save_grownB h.grown
theorem save_new {w w' w'' : World} {mo lm : Nat} (h : Save mo w w') (hs : Save lm w' w'') (hl : w.heap.size ≤ lm) : Save mo w w'' :=
  ⟨hs.os.trans h.os, hs.tape.trans h.tape, hs.output.trans h.output, Nat.le_trans h.size hs.size, fun k hk hq => (hs.block k (Nat.lt_of_lt_of_le hk h.size) (by omega)).trans (h.block k hk hq)⟩
theorem SetP.save {w w' : World} {b q : Nat} {S : Int × Int → Prop} (h : SetP w b S) (hs : Save q w w') (hne : b ≠ q) : SetP w' b S := h.kept (grown_save hs) (by simp; exact hne)
theorem del_is {x : Cd} (hd : fD x.op = true) {B : Int → Bool} (r : Int) : (r ≠ x.d ∧ B r = true) ↔ (!defB x r && B r) = true := by
  unfold defB
  rw [hd]
  by_cases c : x.d = r
  · simp [c]
  · have c2 : ¬ r = x.d := fun e => c e.symm
    simp [c, c2]
theorem keep_is {x : Cd} (hd : fD x.op = false) {B : Int → Bool} (r : Int) : B r = true ↔ (!defB x r && B r) = true := by
  unfold defB
  rw [hd]; simp
theorem use_is {x : Cd} {B : Int → Bool} {m : Nat} (hm : m = (usesL x).length) (r : Int) : ((!defB x r && B r) = true ∨ r ∈ (usesL x).take m) ↔ (usesB x r || (!defB x r && B r)) = true := by
  subst hm
  rw [List.take_length, Bool.or_eq_true]
  unfold usesB
  rw [List.contains_iff_mem]
  exact Or.comm
theorem behB_in {inn : Int → Int → Bool} {regs : Int} (hi : ∀ b r, inn b r = true → 0 ≤ r ∧ r < regs) {l : List Cd} (hu : ∀ x ∈ l, ∀ u ∈ usesL x, 0 ≤ u ∧ u < regs) {i : Nat} (_ : i < l.length) (r : Int) (h : behB l i inn r = true) : 0 ≤ r ∧ r < regs := by
  unfold behB at h
  rw [Bool.or_eq_true, Bool.and_eq_true] at h
  rcases h with h | ⟨_, h⟩
  · exact liveL_in hi _ r (fun x hx => hu x (List.mem_of_mem_drop hx)) h
  · exact hi _ _ h
theorem LiveOf.there (ls : List (List Cd)) (regs : Nat) : ∃ L, LiveOf ls regs L :=
  ⟨_, fun b r => @decide (LiveR ls (r : Nat) b) (Classical.propDecidable _), fun b _ r _ => by simp, rfl⟩
/-- Live of the program at a valid program whose table is known. -/
theorem sLive_is (regs : Int) (ls : List (List Cd)) (L : List (List Int)) (bl : Option Addr) (cap : Nat) (w : World) (hin : BlkIn w bl ls) (hv : progErrW regs ls = 0) (hlm : ∀ k, k < ls.length → (atB ls k).length ≤ 9223372036854775807) (hL : LiveOf ls regs.toNat L) :
    Calls Try.prog 23 #[.agg #[.int .i64 regs, .slice bl ls.length cap]] w fun e w' => (∃ a c, e = .returned (.tuple #[.slice a L.length c, .int .i64 0]) ∧ RowsIn w' a L) ∧ Below w.heap.size w w' :=
  (sLive_ok regs ls bl cap w hin hv hlm).mono fun e w' h => by
    obtain ⟨a, c, L', rfl, h1, h2, h3⟩ := h.shape
    obtain rfl := (h2.1 hv).unique hL
    rw [hv]
    exact ⟨⟨a, c, rfl, h1⟩, h3⟩
/-- How things stand ahead of an instruction. -/
structure LivSt (ls : List (List Cd)) (inn : Int → Int → Bool) (w2 : World) (mo lm b k : Nat) (wr : World) : Prop where
  fnd : SetP wr mo (Fnd ls inn b k)
  liv : SetI wr lm fun r => liveL ((atB ls b).drop k) inn r = true
  sav : Save mo w2 wr
set_option maxRecDepth 100000 in
set_option maxHeartbeats 2000000 in
theorem lives_any (regs : Int) (ls : List (List Cd)) (L : List (List Int)) (bl : Option Addr) (cap Bp Bo mo : Nat) (w : World) (hv : progErrW regs ls = 0) (hlm : ∀ k, k < ls.length → (atB ls k).length ≤ 9223372036854775807) (hL : LiveOf ls regs.toNat L)
    (hin : BlkIn w bl ls) (hp : w.cell? ⟨Bp, 1, none⟩ = some (.slice bl ls.length cap)) (ho : w.cell? ⟨Bo, 0, none⟩ = some (.map (some mo))) (hF : SetP w mo fun _ => False) :
    Calls Try.prog 71 #[.agg #[.int .i64 regs, .slice bl ls.length cap], .func (.func 72) #[] #[.pointer (some ⟨Bp, 0, none⟩), .pointer (some ⟨Bo, 0, none⟩)]] w
      fun e w' => e = .returned (.tuple #[]) ∧ SetP w' mo (Clashes ls (tabI L)) ∧ Save mo w w' := by
  obtain ⟨hbig, hcode, _⟩ := prog_partsW hv
  have hb2 : 0 ≤ regs ∧ regs ≤ 200 ∧ 1 ≤ ls.length ∧ ls.length ≤ 400 := by unfold tooBigW at hbig; omega
  have HLive := Lib.hid (fun u (h : BlkIn u bl ls) => sLive_is regs ls L bl cap u h hv hlm hL)
  have HI := Lib.hid hin; have HF := Lib.hid hF; have HC := Lib.hid hcode; have HLm := Lib.hid hlm; have HLv := Lib.hid hL
  have hmoB : Bo ≠ mo := hF.ne ho
  have hmoP : Bp ≠ mo := hF.ne hp
  have hmo := hF.lt
  have hLlen := hL.len
  have HP := Lib.hid hp; have HO := Lib.hid ho
  clear hin hF hcode hlm hL hbig hv hp ho
  have HMk := Lib.hid (@run_makeMap Try.prog)
  go_enter Try.func71, Try.ntmps71
  go_upto_region 1 with (fail)
  generalize hw0 : w.alloc _ = w0
  have hb0 : Below w.heap.size w w0 := by rw [← hw0]; exact (Below.refl _ _).alloc (Nat.le_refl _) _
  have h0 : w0.cell? ⟨w.heap.size, 0, none⟩ = some (.int .i64 regs) := by subst hw0; simp [go_sem]
  have h1 : w0.cell? ⟨w.heap.size, 1, none⟩ = some (.slice bl ls.length cap) := by subst hw0; simp [go_sem]
  have HB0 := Lib.hid hb0
  clear hw0 hb0
  go_wp2_with fail
  refine (HLive.out w0 (HI.out.below HB0.out)).mono ?_; rintro e w2 ⟨⟨la, lc, rfl, hrows⟩, hb2'⟩
  have HRows := Lib.hid hrows
  have HB2 : Hid (Below w.heap.size w w2) := Lib.hid (HB0.out.trans (hb2'.mono HB0.out.size))
  have k1 := keep h1 hb2'
  have HF2 := Lib.hid (HF.out.below HB2.out)
  have pP := keep HP.out HB2.out; have pO := keep HO.out HB2.out
  clear hrows hb2' h0 h1
  go_wp2_with fail
  have HInn : Hid (∀ b r, tabI L b r = true → 0 ≤ r ∧ r < regs) := Lib.hid (tabI_in HLv.out hb2.1)
  have HTab : Hid (∀ (b : Nat) r, tabI L b r = decide (r ∈ L.getD b [])) := Lib.hid fun b r => rfl
  have HLin : Hid (∀ b, b < ls.length → ∀ x ∈ atB ls b, ∀ u ∈ usesL x, 0 ≤ u ∧ u < regs) := Lib.hid fun b hb x hx => by
    obtain ⟨j, hj, rfl⟩ := List.getElem_of_mem hx
    exact usesL_in (by have := HC.out b j hb hj; rwa [atC_get hj] at this)
  have HRowL : Hid (∀ b : Nat, (L.getD b []).length ≤ 200) := Lib.hid fun b => Nat.le_trans (HLv.out.row b) (by omega)
  generalize hinn : tabI L = inn at *
  have HInnE := Lib.hid hinn
  clear hinn
  go_loopw [28] (fun i wr => ∃ b : Nat, b ≤ ls.length ∧ i = .int .i64 b ∧ SetP wr mo (Fnd ls inn b (atB ls b).length) ∧ Save mo w2 wr) (fun i _ => ls.length - (intOf i).toNat)
  case atStart => exact ⟨0, Nat.zero_le _, rfl, HF2.out.congr fun p => ⟨fun h => h.elim, fun h => (Fnd.start _ _ _ h).elim⟩, Save.refl _ _⟩
  case round =>
    obtain ⟨b, hb, rfl, hfnd, hsv⟩ := hrel
    by_cases hlt : b < ls.length
    rotate_left
    · obtain rfl : b = ls.length := by omega
      have HE : Hid (SetP wr mo (Clashes ls inn) ∧ Save mo w wr) := Lib.hid ⟨hfnd, (Save.of_below HB2.out).trans hsv⟩
      clear hfnd hsv
      go_wp2_with fail
      go_end0
      exact ⟨rfl, by rw [HInnE.out]; exact HE.out.1, HE.out.2⟩
    have hbi : (b : Int) < (ls.length : Int) := by omega
    have hlb := HLm.out b hlt
    obtain ⟨cb, coff, ca, cc, hbe, hcell0, hcds⟩ := (HI.out.below HB2.out) b hlt
    have hcell := hsv.cell (HF2.out.ne hcell0) hcell0
    have HCds := Lib.hid hcds
    have hcell2 := hsv.cell (HF2.out.ne k1) k1
    have HFnd := Lib.hid hfnd; have HSv := Lib.hid hsv
    clear hfnd hsv hcell0 hcds
    have HI2 := Lib.hid (HI.out.below HB2.out)
    subst hbe
    generalize hm : (atB ls b).length = m at *
    have HM := Lib.hid hm; clear hm
    have hmm := HMk.out
    go_wp2_with fail
    clear hmm
    have HF3 := Lib.hid (HFnd.out.kept (World.grownBy_alloc wr (.map #[] 0) none) (by simp))
    have HL3 := Lib.hid (SetI.made wr)
    have HS3 : Hid (Save mo w2 (wr.alloc (.map #[] 0))) := Lib.hid (HSv.out.trans (Save.of_below ((Below.refl _ _).alloc (Nat.le_refl _) _)))
    have HLz : Hid (w2.heap.size ≤ wr.heap.size) := Lib.hid HSv.out.size
    generalize hw3 : wr.alloc (.map #[] 0) = w3 at *
    clear hw3
    generalize wr.heap.size = lm at *
    clear hcell hcell2
    have hlmo : lm ≠ mo := by have := HF2.out.lt; have := HLz.out; omega
    go_loopw [9] (fun i wr => ∃ k : Nat, k ≤ m ∧ i = .int .i64 ((k : Int) - 1) ∧ LivSt ls inn w2 mo lm b k wr) (fun i _ => (intOf i + 1).toNat)
    case atStart => exact ⟨m, Nat.le_refl _, rfl, HF3.out, HL3.out.congr fun r => (by rw [← HM.out, List.drop_length]; simp [liveL]), HS3.out⟩
    case round =>
      obtain ⟨k, hk, hj, hst⟩ := hrel
      by_cases hk0 : k = 0
      · subst hk0
        have hj2 : u9 = .int .i64 (-1) := by rw [hj]; rfl
        subst hj2
        have HE : Hid (SetP wr mo (Fnd ls inn (b + 1) (atB ls (b + 1)).length)) := Lib.hid (hst.fnd.congr fun p => (Fnd.turn ls inn b p).symm)
        have HS := Lib.hid hst.sav
        clear hst hj
        go_wp2_with fail
        go_roundw
        case rel => exact ⟨b + 1, by omega, by go_num, HE.out, HS.out⟩
        case measure => simp [intOf]; omega
      obtain ⟨i, rfl⟩ : ∃ i, k = i + 1 := ⟨k - 1, by omega⟩
      have hj2 : u9 = .int .i64 (i : Int) := by rw [hj]; congr 1; omega
      subst hj2
      have hil : i < m := by omega
      have hii : (i : Int) < (m : Int) := by omega
      obtain ⟨xb, xoff, hxe, hx⟩ := HCds.out i (by rw [HM.out]; exact hil)
      have hx' := CdAt.saveP hx hst.sav HF2.out
      have hX := HC.out b i hlt (by rw [HM.out]; exact hil)
      have HXs : Hid (∀ t ∈ usesL (atC (atB ls b) i), 0 ≤ t ∧ t < regs) := Lib.hid (usesL_in hX)
      have HStep : Hid (∀ p, _ ↔ Fnd ls inn b i p) := Lib.hid fun p => (Fnd.step (by rw [HM.out]; exact hil) p).symm
      have HBN : Hid (∀ r, liveL ((atB ls b).drop i) inn r = _) := Lib.hid fun r => behB_next (by rw [HM.out]; exact hil) inn r
      have HBe : Hid (∀ r, behB (atB ls b) i inn r = (liveL ((atB ls b).drop (i + 1)) inn r || (fT (atC (atB ls b) i).op && inn (atC (atB ls b) i).to r))) := Lib.hid fun r => rfl
      have HSt := Lib.hid hst
      have hcp := code_parts hX
      have HX4 : Hid (isCodeB (atC (atB ls b) i) 200 400 = true) := Lib.hid (isCode_big hX hb2.2.1 (by omega))
      subst hxe
      obtain ⟨x, hxx⟩ : ∃ x, atC (atB ls b) i = x := ⟨_, rfl⟩
      have HXe := Lib.hid hxx
      rw [hxx] at hx' hcp HX4 HXs HStep HBN HBe
      clear hst hj hX hx hxx
      obtain ⟨x0, x1, x2, x3, x4, x5⟩ := hx'
      have HTo := Lib.hid hcp.2.2.2.2.2.2.2.1
      have HBin : Hid (∀ r, behB (atB ls b) i inn r = true → 0 ≤ r ∧ r < 200) := Lib.hid fun r hr => (by have := behB_in HInn.out (HLin.out b hlt) (by rw [HM.out]; exact hil) r hr; omega)
      have HDef := Lib.hid (Defines_any x HX4.out)
      have HUse := Lib.hid (Uses_any x HX4.out)
      have HDr := Lib.hid hcp.2.1
      go_upto_region 10 with (fail)
      have HL4 := Lib.hid ((HSt.out.liv).kept (World.grownBy_alloc wr (.cells #[.int .i64 x.op, .int .i64 x.d, .int .i64 x.a, .int .i64 x.b, .int .u32 x.im, .int .i64 x.to] 68) none) (by simp))
      have HF4 := Lib.hid ((HSt.out.fnd).kept (World.grownBy_alloc wr (.cells #[.int .i64 x.op, .int .i64 x.d, .int .i64 x.a, .int .i64 x.b, .int .u32 x.im, .int .i64 x.to] 68) none) (by simp))
      have HS4 : Hid (Save mo w2 (wr.alloc (.cells #[.int .i64 x.op, .int .i64 x.d, .int .i64 x.a, .int .i64 x.b, .int .u32 x.im, .int .i64 x.to] 68))) := Lib.hid (HSt.out.sav.trans (Save.of_below ((Below.refl _ _).alloc (Nat.le_refl _) _)))
      have HX4' := Lib.hid (cdAt_new wr x 68)
      have hqmo : wr.heap.size ≠ mo := by have := HSt.out.fnd.lt; omega
      have hqlm : wr.heap.size ≠ lm := by have := HSt.out.liv.lt; omega
      generalize hw4 : wr.alloc (.cells #[.int .i64 x.op, .int .i64 x.d, .int .i64 x.a, .int .i64 x.b, .int .u32 x.im, .int .i64 x.to] 68) = w4 at *
      clear hw4
      generalize wr.heap.size = q at *
      have HKd : Hid (fD x.op = true → KV x.d) := Lib.hid fun h => (by have := HDr.out h; unfold KV; omega)
      clear x0 x1 x2 x3 x4 x5 hcp
      obtain ⟨x0, x1, x2, x3, x4, x5⟩ := HX4'.out
      simp only [Nat.zero_add] at x1 x2 x3 x4 x5
      by_cases hT : fT x.op = false
      · have f24 : (x.op == 24) = false := by unfold fT at hT; have := of_decide_eq_false hT; rw [beq_eq_false_iff_ne]; omega
        have f25 : (x.op == 25) = false := by unfold fT at hT; have := of_decide_eq_false hT; rw [beq_eq_false_iff_ne]; omega
        have HBj : Hid (SetI w4 lm fun r => behB (atB ls b) i inn r = true) := Lib.hid (HL4.out.congr fun r => by rw [HBe.out, hT]; simp)
        have HSj := HS4; have HFj := HF4; have HXj := HX4'
        cases hd : fD x.op
        · go_wp2_with fail
          have hpc := HSj.out.cell hmoP pP
          have hoc := HSj.out.cell hmoB pO
          have HLook := Lib.hid (look_any ls (some ⟨cb, coff, none⟩) cap b i Bp Bo mo lm (fun r => behB (atB ls b) i inn r) (Fnd ls inn b (i + 1)) w4 hlt (by rw [HM.out]; exact hil) ((HI2.out.saveP HSj.out HF2.out)) hpc hoc HBj.out HFj.out hlmo (by rw [HXe.out]; exact HX4.out) HBin.out)
          rw [HXe.out] at HLook
          clear hpc hoc
          refine HLook.out.mono ?_; rintro e w5 ⟨rfl, hf5, hs5⟩
          have hx5 := HXj.out.save hs5 hqmo
          have HL5 := Lib.hid (HBj.out.save hs5 hlmo)
          have HF5 := Lib.hid (hf5.congr HStep.out)
          have HS5 := Lib.hid (HSj.out.trans hs5)
          have HX5 := Lib.hid hx5
          obtain ⟨y0, y1, y2, y3, y4, y5⟩ := hx5
          simp only [Nat.zero_add] at y1 y2 y3 y4 y5
          clear hf5 hs5 HLook
          go_wp2_with fail
          refine (HDef.out _).mono ?_; rintro e w6 ⟨rfl, hb6⟩
          have HL6 := Lib.hid (HL5.out.below hb6); have HF6 := Lib.hid (HF5.out.below hb6); have HS6 := Lib.hid (HS5.out.trans (Save.of_below hb6)); have HX6 := Lib.hid (HX5.out.keep hb6)
          obtain ⟨z0, z1, z2, z3, z4, z5⟩ := HX6.out
          simp only [Nat.zero_add] at z1 z2 z3 z4 z5
          clear hb6 y0 y1 y2 y3 y4 y5
          have HL7 : Hid (SetI w6 lm fun r => (!defB x r && behB (atB ls b) i inn r) = true) := Lib.hid (HL6.out.congr (keep_is (B := fun r => behB (atB ls b) i inn r) hd))
          have HF7 := HF6; have HS7 := HS6; have HX7 := HX6
          rw [hd]
          go_wp2_with fail
          refine (HUse.out _).mono ?_; rintro e w8 ⟨⟨v, rfl, ho⟩, hb8⟩
          have HL8 := Lib.hid (HL7.out.below hb8); have HF8 := Lib.hid (HF7.out.below hb8); have HS8 := Lib.hid (HS7.out.trans (Save.of_below hb8))
          obtain ⟨ua, uc, rfl⟩ := owns_shape ho
          have HU8 := Lib.hid (rowAt_owns ho (q := lm) HL7.out.lt)
          have hul := usesL_len x
          have HUin := HXs
          clear ho hb8
          go_wp2_with fail
          go_loopw [87] (fun c wr => ∃ m2 : Nat, m2 ≤ (usesL x).length ∧ c = .int .i64 m2 ∧ SetI wr lm (fun r => (!defB x r && behB (atB ls b) i inn r) = true ∨ r ∈ (usesL x).take m2) ∧ Save lm w8 wr) (fun c _ => (usesL x).length - (intOf c).toNat)
          case atStart => exact ⟨0, Nat.zero_le _, rfl, HL8.out.congr fun r => (by simp), Save.refl _ _⟩
          case round =>
            obtain ⟨m2, hm2, rfl, hl9, hs9⟩ := hrel
            by_cases hlt2 : m2 < (usesL x).length
            · obtain ⟨a', cap', e', hi', _⟩ := RowAt.save HU8.out hs9
              cases e'
              obtain ⟨ub, uoff, rfl, hcu⟩ := hi' m2 hlt2
              have hrn := HUin.out ((usesL x).getD m2 0) (by rw [List.getD_eq_getElem?_getD, List.getElem?_eq_getElem hlt2]; exact List.getElem_mem hlt2)
              have HAdd := Lib.hid (addRow_step (S := fun r => (!defB x r && behB (atB ls b) i inn r) = true) hlt2)
              obtain ⟨fu, hfu, hfus⟩ := hl9
              have HfU := Lib.hid hfu; have HfUS := Lib.hid hfus; have HS9 := Lib.hid hs9
              clear hfu hfus hs9 hi'
              have hml : (m2 : Int) < (usesL x).length := by omega
              generalize hlen : (usesL x).length = ul at *
              clear hlen
              generalize (usesL x).getD m2 0 = rn at *
              have HKn : Hid (KV rn) := Lib.hid (by unfold KV; omega)
              go_wp2_with (at_mapUpdate; refine wpList_put_map _ rfl _ _ _ 99 rfl Try.underlying99 intKind boolKind allI allI_mem allI_len lm fu HfU.out rfl rn () HKn.out trivial rfl rfl ?_; intro w9 hl9 hg9)
              have HL9 : Hid (SetI w9 lm _) := Lib.hid ⟨_, hl9, fun r => ((updF_some _ _ _ _).trans (or_congr Iff.rfl (HfUS.out r))).trans (HAdd.out r)⟩
              have HS9' := Lib.hid (HS9.out.trans (save_grownB hg9))
              clear hl9 hg9
              go_roundw
              case rel => exact ⟨m2 + 1, by omega, by go_num, HL9.out, HS9'.out⟩
              case measure => simp [intOf]; omega
            · have hme : m2 = (usesL x).length := by omega
              have HE : Hid (LivSt ls inn w2 mo lm b i wr) := Lib.hid ⟨HF8.out.save hs9 hlmo.symm, hl9.congr fun r => (use_is hme r).trans (by rw [HBN.out r]), save_new HS8.out hs9 HLz.out⟩
              clear hl9 hs9 hme HU8
              go_wp2_with fail
              go_roundw
              case rel => exact ⟨i, by omega, by go_num, HE.out⟩
              case measure => simp [intOf]
        · go_wp2_with fail
          have hpc := HSj.out.cell hmoP pP
          have hoc := HSj.out.cell hmoB pO
          have HLook := Lib.hid (look_any ls (some ⟨cb, coff, none⟩) cap b i Bp Bo mo lm (fun r => behB (atB ls b) i inn r) (Fnd ls inn b (i + 1)) w4 hlt (by rw [HM.out]; exact hil) ((HI2.out.saveP HSj.out HF2.out)) hpc hoc HBj.out HFj.out hlmo (by rw [HXe.out]; exact HX4.out) HBin.out)
          rw [HXe.out] at HLook
          clear hpc hoc
          refine HLook.out.mono ?_; rintro e w5 ⟨rfl, hf5, hs5⟩
          have hx5 := HXj.out.save hs5 hqmo
          have HL5 := Lib.hid (HBj.out.save hs5 hlmo)
          have HF5 := Lib.hid (hf5.congr HStep.out)
          have HS5 := Lib.hid (HSj.out.trans hs5)
          have HX5 := Lib.hid hx5
          obtain ⟨y0, y1, y2, y3, y4, y5⟩ := hx5
          simp only [Nat.zero_add] at y1 y2 y3 y4 y5
          clear hf5 hs5 HLook
          go_wp2_with fail
          refine (HDef.out _).mono ?_; rintro e w6 ⟨rfl, hb6⟩
          have HL6 := Lib.hid (HL5.out.below hb6); have HF6 := Lib.hid (HF5.out.below hb6); have HS6 := Lib.hid (HS5.out.trans (Save.of_below hb6)); have HX6 := Lib.hid (HX5.out.keep hb6)
          obtain ⟨z0, z1, z2, z3, z4, z5⟩ := HX6.out
          simp only [Nat.zero_add] at z1 z2 z3 z4 z5
          clear hb6 y0 y1 y2 y3 y4 y5
          obtain ⟨fl, hfl, hfls⟩ := HL6.out
          have HfL := Lib.hid hfl; have HfS := Lib.hid hfls
          clear hfl hfls
          have HDl := Lib.hid (del_is (B := fun r => behB (atB ls b) i inn r) hd)
          rw [hd]
          go_wp2_with (at_delete; refine wpList_del_map _ rfl _ _ 99 rfl Try.underlying99 intKind lm fl HfL.out rfl x.d (HKd.out hd) rfl ?_; intro w7 hl7 ht7; have hs7 := save_turned ht7; have HL7 : Hid (SetI w7 lm fun r => (!defB x r && behB (atB ls b) i inn r) = true) := Lib.hid ⟨_, hl7, fun r => ((delF_some _ _ _).trans (and_congr Iff.rfl (HfS.out r))).trans (HDl.out r)⟩; have HF7 := Lib.hid (HF6.out.save hs7 hlmo.symm); have HS7 : Hid (Save mo w2 w7) := Lib.hid (save_new HS6.out hs7 HLz.out); have HX7 := Lib.hid (HX6.out.save hs7 hqlm); obtain ⟨v0, v1, v2, v3, v4, v5⟩ := HX7.out; simp only [Nat.zero_add] at v1 v2 v3 v4 v5; clear hl7 ht7 hs7 z0 z1 z2 z3 z4 z5)
          refine (HUse.out _).mono ?_; rintro e w8 ⟨⟨v, rfl, ho⟩, hb8⟩
          have HL8 := Lib.hid (HL7.out.below hb8); have HF8 := Lib.hid (HF7.out.below hb8); have HS8 := Lib.hid (HS7.out.trans (Save.of_below hb8))
          obtain ⟨ua, uc, rfl⟩ := owns_shape ho
          have HU8 := Lib.hid (rowAt_owns ho (q := lm) HL7.out.lt)
          have hul := usesL_len x
          have HUin := HXs
          clear ho hb8
          go_wp2_with fail
          go_loopw [87] (fun c wr => ∃ m2 : Nat, m2 ≤ (usesL x).length ∧ c = .int .i64 m2 ∧ SetI wr lm (fun r => (!defB x r && behB (atB ls b) i inn r) = true ∨ r ∈ (usesL x).take m2) ∧ Save lm w8 wr) (fun c _ => (usesL x).length - (intOf c).toNat)
          case atStart => exact ⟨0, Nat.zero_le _, rfl, HL8.out.congr fun r => (by simp), Save.refl _ _⟩
          case round =>
            obtain ⟨m2, hm2, rfl, hl9, hs9⟩ := hrel
            by_cases hlt2 : m2 < (usesL x).length
            · obtain ⟨a', cap', e', hi', _⟩ := RowAt.save HU8.out hs9
              cases e'
              obtain ⟨ub, uoff, rfl, hcu⟩ := hi' m2 hlt2
              have hrn := HUin.out ((usesL x).getD m2 0) (by rw [List.getD_eq_getElem?_getD, List.getElem?_eq_getElem hlt2]; exact List.getElem_mem hlt2)
              have HAdd := Lib.hid (addRow_step (S := fun r => (!defB x r && behB (atB ls b) i inn r) = true) hlt2)
              obtain ⟨fu, hfu, hfus⟩ := hl9
              have HfU := Lib.hid hfu; have HfUS := Lib.hid hfus; have HS9 := Lib.hid hs9
              clear hfu hfus hs9 hi'
              have hml : (m2 : Int) < (usesL x).length := by omega
              generalize hlen : (usesL x).length = ul at *
              clear hlen
              generalize (usesL x).getD m2 0 = rn at *
              have HKn : Hid (KV rn) := Lib.hid (by unfold KV; omega)
              go_wp2_with (at_mapUpdate; refine wpList_put_map _ rfl _ _ _ 99 rfl Try.underlying99 intKind boolKind allI allI_mem allI_len lm fu HfU.out rfl rn () HKn.out trivial rfl rfl ?_; intro w9 hl9 hg9)
              have HL9 : Hid (SetI w9 lm _) := Lib.hid ⟨_, hl9, fun r => ((updF_some _ _ _ _).trans (or_congr Iff.rfl (HfUS.out r))).trans (HAdd.out r)⟩
              have HS9' := Lib.hid (HS9.out.trans (save_grownB hg9))
              clear hl9 hg9
              go_roundw
              case rel => exact ⟨m2 + 1, by omega, by go_num, HL9.out, HS9'.out⟩
              case measure => simp [intOf]; omega
            · have hme : m2 = (usesL x).length := by omega
              have HE : Hid (LivSt ls inn w2 mo lm b i wr) := Lib.hid ⟨HF8.out.save hs9 hlmo.symm, hl9.congr fun r => (use_is hme r).trans (by rw [HBN.out r]), save_new HS8.out hs9 HLz.out⟩
              clear hl9 hs9 hme HU8
              go_wp2_with fail
              go_roundw
              case rel => exact ⟨i, by omega, by go_num, HE.out⟩
              case measure => simp [intOf]
      · have hT : fT x.op = true := by cases h : fT x.op <;> simp_all
        cases f24 : (x.op == 24)
        · have f25 : (x.op == 25) = true := by unfold fT at hT; have := of_decide_eq_true hT; have := beq_eq_false_iff_ne.1 f24; rw [beq_iff_eq]; omega
          rw [hT] at HBe
          obtain ⟨ht0, ht1⟩ := HTo.out hT
          obtain ⟨tn, htn⟩ : ∃ tn : Nat, x.to = tn := ⟨x.to.toNat, by omega⟩
          have hd : fD x.op = false := fT_fD hT
          have hRw := (HRows.out.saveP HS4.out HF2.out) tn (by omega)
          obtain ⟨rb, roff, ra, rc, hre, hrc, hri⟩ := hRw
          subst hre
          rw [htn] at x5 HBe
          have htl : (tn : Int) < (ls.length : Int) := by omega
          have hrl := HRowL.out tn
          have HTb : Hid (∀ r, inn (tn : Int) r = decide (r ∈ L.getD tn [])) := Lib.hid (HTab.out tn)
          have HRIn : Hid (∀ r ∈ L.getD tn [], 0 ≤ r ∧ r < regs) := Lib.hid fun r hr => HInn.out tn r (by rw [HTab.out]; exact decide_eq_true hr)
          have HRi := Lib.hid hri
          clear hri htn ht0 ht1
          generalize L.getD tn [] = row at *
          go_wp2_with fail
          go_loopw [12, 59] (fun _ c wr => ∃ m2 : Nat, m2 ≤ row.length ∧ c = .int .i64 m2 ∧ SetI wr lm (fun r => liveL ((atB ls b).drop (i + 1)) inn r = true ∨ r ∈ row.take m2) ∧ Save lm w4 wr) (fun _ c _ => row.length - (intOf c).toNat)
          case atStart => exact ⟨0, Nat.zero_le _, rfl, HL4.out.congr fun r => (by simp), Save.refl _ _⟩
          case round =>
            obtain ⟨m2, hm2, rfl, hl9, hs9⟩ := hrel
            by_cases hlt2 : m2 < row.length
            · obtain ⟨ub, uoff, rfl, hcu⟩ := HRi.out m2 hlt2
              have hcu2 := hs9.cell (HL4.out.ne hcu) hcu
              have hrn := HRIn.out (row.getD m2 0) (by rw [List.getD_eq_getElem?_getD, List.getElem?_eq_getElem hlt2]; exact List.getElem_mem hlt2)
              have HAdd := Lib.hid (addRow_step (S := fun r => liveL ((atB ls b).drop (i + 1)) inn r = true) hlt2)
              obtain ⟨fu, hfu, hfus⟩ := hl9
              have HfU := Lib.hid hfu; have HfUS := Lib.hid hfus; have HS9 := Lib.hid hs9
              clear hfu hfus hs9 hcu
              have hml : (m2 : Int) < row.length := by omega
              generalize hlen : row.length = ul at *
              clear hlen
              generalize row.getD m2 0 = rn at *
              have HKn : Hid (KV rn) := Lib.hid (by unfold KV; omega)
              go_wp2_with (at_mapUpdate; refine wpList_put_map _ rfl _ _ _ 99 rfl Try.underlying99 intKind boolKind allI allI_mem allI_len lm fu HfU.out rfl rn () HKn.out trivial rfl rfl ?_; intro w9 hl9 hg9)
              have HL9 : Hid (SetI w9 lm _) := Lib.hid ⟨_, hl9, fun r => ((updF_some _ _ _ _).trans (or_congr Iff.rfl (HfUS.out r))).trans (HAdd.out r)⟩
              have HS9' := Lib.hid (HS9.out.trans (save_grownB hg9))
              clear hl9 hg9
              go_roundw
              case rel => exact ⟨m2 + 1, by omega, by go_num, HL9.out, HS9'.out⟩
              case measure => simp [intOf]; omega
            · have hme : m2 = row.length := by omega
              have HBj : Hid (SetI wr lm fun r => behB (atB ls b) i inn r = true) := Lib.hid (hl9.congr fun r => by rw [HBe.out, HTb.out, hme, List.take_length]; simp)
              have HFj := Lib.hid (HF4.out.save hs9 hlmo.symm)
              have HSj := Lib.hid (save_new HS4.out hs9 HLz.out)
              have HXj := Lib.hid (HX4'.out.save hs9 hqlm)
              obtain ⟨wJ, hwJ⟩ : ∃ wJ, wr = wJ := ⟨_, rfl⟩
              rw [hwJ] at HBj HFj HSj HXj ⊢
              obtain ⟨x0, x1, x2, x3, x4, x5⟩ := HXj.out
              simp only [Nat.zero_add] at x1 x2 x3 x4 x5
              clear hl9 hs9 hme hwJ
              go_wp2_with fail
              have hpc := HSj.out.cell hmoP pP
              have hoc := HSj.out.cell hmoB pO
              have HLook := Lib.hid (look_any ls (some ⟨cb, coff, none⟩) cap b i Bp Bo mo lm (fun r => behB (atB ls b) i inn r) (Fnd ls inn b (i + 1)) wJ hlt (by rw [HM.out]; exact hil) ((HI2.out.saveP HSj.out HF2.out)) hpc hoc HBj.out HFj.out hlmo (by rw [HXe.out]; exact HX4.out) HBin.out)
              rw [HXe.out] at HLook
              clear hpc hoc
              refine HLook.out.mono ?_; rintro e w5 ⟨rfl, hf5, hs5⟩
              have hx5 := HXj.out.save hs5 hqmo
              have HL5 := Lib.hid (HBj.out.save hs5 hlmo)
              have HF5 := Lib.hid (hf5.congr HStep.out)
              have HS5 := Lib.hid (HSj.out.trans hs5)
              have HX5 := Lib.hid hx5
              obtain ⟨y0, y1, y2, y3, y4, y5⟩ := hx5
              simp only [Nat.zero_add] at y1 y2 y3 y4 y5
              clear hf5 hs5 HLook
              go_wp2_with fail
              refine (HDef.out _).mono ?_; rintro e w6 ⟨rfl, hb6⟩
              have HL6 := Lib.hid (HL5.out.below hb6); have HF6 := Lib.hid (HF5.out.below hb6); have HS6 := Lib.hid (HS5.out.trans (Save.of_below hb6)); have HX6 := Lib.hid (HX5.out.keep hb6)
              obtain ⟨z0, z1, z2, z3, z4, z5⟩ := HX6.out
              simp only [Nat.zero_add] at z1 z2 z3 z4 z5
              clear hb6 y0 y1 y2 y3 y4 y5
              have HL7 : Hid (SetI w6 lm fun r => (!defB x r && behB (atB ls b) i inn r) = true) := Lib.hid (HL6.out.congr (keep_is (B := fun r => behB (atB ls b) i inn r) hd))
              have HF7 := HF6; have HS7 := HS6; have HX7 := HX6
              rw [hd]
              go_wp2_with fail
              refine (HUse.out _).mono ?_; rintro e w8 ⟨⟨v, rfl, ho⟩, hb8⟩
              have HL8 := Lib.hid (HL7.out.below hb8); have HF8 := Lib.hid (HF7.out.below hb8); have HS8 := Lib.hid (HS7.out.trans (Save.of_below hb8))
              obtain ⟨ua, uc, rfl⟩ := owns_shape ho
              have HU8 := Lib.hid (rowAt_owns ho (q := lm) HL7.out.lt)
              have hul := usesL_len x
              have HUin := HXs
              clear ho hb8
              go_wp2_with fail
              go_loopw [87] (fun c wr => ∃ m2 : Nat, m2 ≤ (usesL x).length ∧ c = .int .i64 m2 ∧ SetI wr lm (fun r => (!defB x r && behB (atB ls b) i inn r) = true ∨ r ∈ (usesL x).take m2) ∧ Save lm w8 wr) (fun c _ => (usesL x).length - (intOf c).toNat)
              case atStart => exact ⟨0, Nat.zero_le _, rfl, HL8.out.congr fun r => (by simp), Save.refl _ _⟩
              case round =>
                obtain ⟨m2, hm2, rfl, hl9, hs9⟩ := hrel
                by_cases hlt2 : m2 < (usesL x).length
                · obtain ⟨a', cap', e', hi', _⟩ := RowAt.save HU8.out hs9
                  cases e'
                  obtain ⟨ub, uoff, rfl, hcu⟩ := hi' m2 hlt2
                  have hrn := HUin.out ((usesL x).getD m2 0) (by rw [List.getD_eq_getElem?_getD, List.getElem?_eq_getElem hlt2]; exact List.getElem_mem hlt2)
                  have HAdd := Lib.hid (addRow_step (S := fun r => (!defB x r && behB (atB ls b) i inn r) = true) hlt2)
                  obtain ⟨fu, hfu, hfus⟩ := hl9
                  have HfU := Lib.hid hfu; have HfUS := Lib.hid hfus; have HS9 := Lib.hid hs9
                  clear hfu hfus hs9 hi'
                  have hml : (m2 : Int) < (usesL x).length := by omega
                  generalize hlen : (usesL x).length = ul at *
                  clear hlen
                  generalize (usesL x).getD m2 0 = rn at *
                  have HKn : Hid (KV rn) := Lib.hid (by unfold KV; omega)
                  go_wp2_with (at_mapUpdate; refine wpList_put_map _ rfl _ _ _ 99 rfl Try.underlying99 intKind boolKind allI allI_mem allI_len lm fu HfU.out rfl rn () HKn.out trivial rfl rfl ?_; intro w9 hl9 hg9)
                  have HL9 : Hid (SetI w9 lm _) := Lib.hid ⟨_, hl9, fun r => ((updF_some _ _ _ _).trans (or_congr Iff.rfl (HfUS.out r))).trans (HAdd.out r)⟩
                  have HS9' := Lib.hid (HS9.out.trans (save_grownB hg9))
                  clear hl9 hg9
                  go_roundw
                  case rel => exact ⟨m2 + 1, by omega, by go_num, HL9.out, HS9'.out⟩
                  case measure => simp [intOf]; omega
                · have hme : m2 = (usesL x).length := by omega
                  have HE : Hid (LivSt ls inn w2 mo lm b i wr) := Lib.hid ⟨HF8.out.save hs9 hlmo.symm, hl9.congr fun r => (use_is hme r).trans (by rw [HBN.out r]), save_new HS8.out hs9 HLz.out⟩
                  clear hl9 hs9 hme HU8
                  go_wp2_with fail
                  go_roundw
                  case rel => exact ⟨i, by omega, by go_num, HE.out⟩
                  case measure => simp [intOf]
        · have f25 : (x.op == 25) = false := by have := beq_iff_eq.1 f24; rw [beq_eq_false_iff_ne]; omega
          rw [hT] at HBe
          obtain ⟨ht0, ht1⟩ := HTo.out hT
          obtain ⟨tn, htn⟩ : ∃ tn : Nat, x.to = tn := ⟨x.to.toNat, by omega⟩
          have hd : fD x.op = false := fT_fD hT
          have hRw := (HRows.out.saveP HS4.out HF2.out) tn (by omega)
          obtain ⟨rb, roff, ra, rc, hre, hrc, hri⟩ := hRw
          subst hre
          rw [htn] at x5 HBe
          have htl : (tn : Int) < (ls.length : Int) := by omega
          have hrl := HRowL.out tn
          have HTb : Hid (∀ r, inn (tn : Int) r = decide (r ∈ L.getD tn [])) := Lib.hid (HTab.out tn)
          have HRIn : Hid (∀ r ∈ L.getD tn [], 0 ≤ r ∧ r < regs) := Lib.hid fun r hr => HInn.out tn r (by rw [HTab.out]; exact decide_eq_true hr)
          have HRi := Lib.hid hri
          clear hri htn ht0 ht1
          generalize L.getD tn [] = row at *
          go_wp2_with fail
          go_loopw [12, 59] (fun _ c wr => ∃ m2 : Nat, m2 ≤ row.length ∧ c = .int .i64 m2 ∧ SetI wr lm (fun r => liveL ((atB ls b).drop (i + 1)) inn r = true ∨ r ∈ row.take m2) ∧ Save lm w4 wr) (fun _ c _ => row.length - (intOf c).toNat)
          case atStart => exact ⟨0, Nat.zero_le _, rfl, HL4.out.congr fun r => (by simp), Save.refl _ _⟩
          case round =>
            obtain ⟨m2, hm2, rfl, hl9, hs9⟩ := hrel
            by_cases hlt2 : m2 < row.length
            · obtain ⟨ub, uoff, rfl, hcu⟩ := HRi.out m2 hlt2
              have hcu2 := hs9.cell (HL4.out.ne hcu) hcu
              have hrn := HRIn.out (row.getD m2 0) (by rw [List.getD_eq_getElem?_getD, List.getElem?_eq_getElem hlt2]; exact List.getElem_mem hlt2)
              have HAdd := Lib.hid (addRow_step (S := fun r => liveL ((atB ls b).drop (i + 1)) inn r = true) hlt2)
              obtain ⟨fu, hfu, hfus⟩ := hl9
              have HfU := Lib.hid hfu; have HfUS := Lib.hid hfus; have HS9 := Lib.hid hs9
              clear hfu hfus hs9 hcu
              have hml : (m2 : Int) < row.length := by omega
              generalize hlen : row.length = ul at *
              clear hlen
              generalize row.getD m2 0 = rn at *
              have HKn : Hid (KV rn) := Lib.hid (by unfold KV; omega)
              go_wp2_with (at_mapUpdate; refine wpList_put_map _ rfl _ _ _ 99 rfl Try.underlying99 intKind boolKind allI allI_mem allI_len lm fu HfU.out rfl rn () HKn.out trivial rfl rfl ?_; intro w9 hl9 hg9)
              have HL9 : Hid (SetI w9 lm _) := Lib.hid ⟨_, hl9, fun r => ((updF_some _ _ _ _).trans (or_congr Iff.rfl (HfUS.out r))).trans (HAdd.out r)⟩
              have HS9' := Lib.hid (HS9.out.trans (save_grownB hg9))
              clear hl9 hg9
              go_roundw
              case rel => exact ⟨m2 + 1, by omega, by go_num, HL9.out, HS9'.out⟩
              case measure => simp [intOf]; omega
            · have hme : m2 = row.length := by omega
              have HBj : Hid (SetI wr lm fun r => behB (atB ls b) i inn r = true) := Lib.hid (hl9.congr fun r => by rw [HBe.out, HTb.out, hme, List.take_length]; simp)
              have HFj := Lib.hid (HF4.out.save hs9 hlmo.symm)
              have HSj := Lib.hid (save_new HS4.out hs9 HLz.out)
              have HXj := Lib.hid (HX4'.out.save hs9 hqlm)
              obtain ⟨wJ, hwJ⟩ : ∃ wJ, wr = wJ := ⟨_, rfl⟩
              rw [hwJ] at HBj HFj HSj HXj ⊢
              obtain ⟨x0, x1, x2, x3, x4, x5⟩ := HXj.out
              simp only [Nat.zero_add] at x1 x2 x3 x4 x5
              clear hl9 hs9 hme hwJ
              go_wp2_with fail
              have hpc := HSj.out.cell hmoP pP
              have hoc := HSj.out.cell hmoB pO
              have HLook := Lib.hid (look_any ls (some ⟨cb, coff, none⟩) cap b i Bp Bo mo lm (fun r => behB (atB ls b) i inn r) (Fnd ls inn b (i + 1)) wJ hlt (by rw [HM.out]; exact hil) ((HI2.out.saveP HSj.out HF2.out)) hpc hoc HBj.out HFj.out hlmo (by rw [HXe.out]; exact HX4.out) HBin.out)
              rw [HXe.out] at HLook
              clear hpc hoc
              refine HLook.out.mono ?_; rintro e w5 ⟨rfl, hf5, hs5⟩
              have hx5 := HXj.out.save hs5 hqmo
              have HL5 := Lib.hid (HBj.out.save hs5 hlmo)
              have HF5 := Lib.hid (hf5.congr HStep.out)
              have HS5 := Lib.hid (HSj.out.trans hs5)
              have HX5 := Lib.hid hx5
              obtain ⟨y0, y1, y2, y3, y4, y5⟩ := hx5
              simp only [Nat.zero_add] at y1 y2 y3 y4 y5
              clear hf5 hs5 HLook
              go_wp2_with fail
              refine (HDef.out _).mono ?_; rintro e w6 ⟨rfl, hb6⟩
              have HL6 := Lib.hid (HL5.out.below hb6); have HF6 := Lib.hid (HF5.out.below hb6); have HS6 := Lib.hid (HS5.out.trans (Save.of_below hb6)); have HX6 := Lib.hid (HX5.out.keep hb6)
              obtain ⟨z0, z1, z2, z3, z4, z5⟩ := HX6.out
              simp only [Nat.zero_add] at z1 z2 z3 z4 z5
              clear hb6 y0 y1 y2 y3 y4 y5
              have HL7 : Hid (SetI w6 lm fun r => (!defB x r && behB (atB ls b) i inn r) = true) := Lib.hid (HL6.out.congr (keep_is (B := fun r => behB (atB ls b) i inn r) hd))
              have HF7 := HF6; have HS7 := HS6; have HX7 := HX6
              rw [hd]
              go_wp2_with fail
              refine (HUse.out _).mono ?_; rintro e w8 ⟨⟨v, rfl, ho⟩, hb8⟩
              have HL8 := Lib.hid (HL7.out.below hb8); have HF8 := Lib.hid (HF7.out.below hb8); have HS8 := Lib.hid (HS7.out.trans (Save.of_below hb8))
              obtain ⟨ua, uc, rfl⟩ := owns_shape ho
              have HU8 := Lib.hid (rowAt_owns ho (q := lm) HL7.out.lt)
              have hul := usesL_len x
              have HUin := HXs
              clear ho hb8
              go_wp2_with fail
              go_loopw [87] (fun c wr => ∃ m2 : Nat, m2 ≤ (usesL x).length ∧ c = .int .i64 m2 ∧ SetI wr lm (fun r => (!defB x r && behB (atB ls b) i inn r) = true ∨ r ∈ (usesL x).take m2) ∧ Save lm w8 wr) (fun c _ => (usesL x).length - (intOf c).toNat)
              case atStart => exact ⟨0, Nat.zero_le _, rfl, HL8.out.congr fun r => (by simp), Save.refl _ _⟩
              case round =>
                obtain ⟨m2, hm2, rfl, hl9, hs9⟩ := hrel
                by_cases hlt2 : m2 < (usesL x).length
                · obtain ⟨a', cap', e', hi', _⟩ := RowAt.save HU8.out hs9
                  cases e'
                  obtain ⟨ub, uoff, rfl, hcu⟩ := hi' m2 hlt2
                  have hrn := HUin.out ((usesL x).getD m2 0) (by rw [List.getD_eq_getElem?_getD, List.getElem?_eq_getElem hlt2]; exact List.getElem_mem hlt2)
                  have HAdd := Lib.hid (addRow_step (S := fun r => (!defB x r && behB (atB ls b) i inn r) = true) hlt2)
                  obtain ⟨fu, hfu, hfus⟩ := hl9
                  have HfU := Lib.hid hfu; have HfUS := Lib.hid hfus; have HS9 := Lib.hid hs9
                  clear hfu hfus hs9 hi'
                  have hml : (m2 : Int) < (usesL x).length := by omega
                  generalize hlen : (usesL x).length = ul at *
                  clear hlen
                  generalize (usesL x).getD m2 0 = rn at *
                  have HKn : Hid (KV rn) := Lib.hid (by unfold KV; omega)
                  go_wp2_with (at_mapUpdate; refine wpList_put_map _ rfl _ _ _ 99 rfl Try.underlying99 intKind boolKind allI allI_mem allI_len lm fu HfU.out rfl rn () HKn.out trivial rfl rfl ?_; intro w9 hl9 hg9)
                  have HL9 : Hid (SetI w9 lm _) := Lib.hid ⟨_, hl9, fun r => ((updF_some _ _ _ _).trans (or_congr Iff.rfl (HfUS.out r))).trans (HAdd.out r)⟩
                  have HS9' := Lib.hid (HS9.out.trans (save_grownB hg9))
                  clear hl9 hg9
                  go_roundw
                  case rel => exact ⟨m2 + 1, by omega, by go_num, HL9.out, HS9'.out⟩
                  case measure => simp [intOf]; omega
                · have hme : m2 = (usesL x).length := by omega
                  have HE : Hid (LivSt ls inn w2 mo lm b i wr) := Lib.hid ⟨HF8.out.save hs9 hlmo.symm, hl9.congr fun r => (use_is hme r).trans (by rw [HBN.out r]), save_new HS8.out hs9 HLz.out⟩
                  clear hl9 hs9 hme HU8
                  go_wp2_with fail
                  go_roundw
                  case rel => exact ⟨i, by omega, by go_num, HE.out⟩
                  case measure => simp [intOf]
end Go.Proofs.Ytjfpaelmcepidaa.PK
namespace Go.Proofs.Ytjfpaelmcepidaa.PK
open Go.RowKit Go.Maps

set_option maxRecDepth 100000 in
set_option maxHeartbeats 1000000 in
theorem clashes_any (regs : Int) (ls : List (List Cd)) (L : List (List Int)) (bl : Option Addr) (cap : Nat) (w : World) (hv : progErrW regs ls = 0) (hlm : ∀ k, k < ls.length → (atB ls k).length ≤ 9223372036854775807) (hL : LiveOf ls regs.toNat L) (hin : BlkIn w bl ls) :
    Calls Try.prog 31 #[.agg #[.int .i64 regs, .slice bl ls.length cap]] w fun e w' => (∃ mo, e = .returned (.map (some mo)) ∧ w.heap.size ≤ mo ∧ SetP w' mo (Clashes ls (tabI L))) ∧ Below w.heap.size w w' := by
  have HI := Lib.hid hin
  have HLives := Lib.hid (fun Bp Bo mo u => lives_any regs ls L bl cap Bp Bo mo u hv hlm hL)
  have HMk := Lib.hid (@run_makeMap Try.prog)
  clear hin hv hlm hL
  generalize Clashes ls (tabI L) = CC at *
  have hmm := HMk.out
  go_enter Try.func31, Try.ntmps31
  go_upto_region 2 with (fail)
  clear hmm
  have hF : SetP (((w.alloc (.cells #[.int .i64 regs, .slice bl ls.length cap] 24)).alloc (.map #[] 0)).alloc (.cells #[.map (some (w.heap.size + 1))] 77)) (w.heap.size + 1) fun _ => False := by
    have h := (SetP.made (w.alloc (.cells #[.int .i64 regs, .slice bl ls.length cap] 24))).kept (World.grownBy_alloc _ (.cells #[.map (some (w.heap.size + 1))] 77) none) (by simp)
    simpa using h
  have hb : Below w.heap.size w (((w.alloc (.cells #[.int .i64 regs, .slice bl ls.length cap] 24)).alloc (.map #[] 0)).alloc (.cells #[.map (some (w.heap.size + 1))] 77)) :=
    (((Below.refl _ _).alloc (Nat.le_refl _) _).alloc (by simp) _).alloc (by simp; omega) _
  have h0 : (((w.alloc (.cells #[.int .i64 regs, .slice bl ls.length cap] 24)).alloc (.map #[] 0)).alloc (.cells #[.map (some (w.heap.size + 1))] 77)).cell? ⟨w.heap.size, 0, none⟩ = some (.int .i64 regs) := by simp [go_sem]
  have h1 : (((w.alloc (.cells #[.int .i64 regs, .slice bl ls.length cap] 24)).alloc (.map #[] 0)).alloc (.cells #[.map (some (w.heap.size + 1))] 77)).cell? ⟨w.heap.size, 1, none⟩ = some (.slice bl ls.length cap) := by simp [go_sem]
  have h2 : (((w.alloc (.cells #[.int .i64 regs, .slice bl ls.length cap] 24)).alloc (.map #[] 0)).alloc (.cells #[.map (some (w.heap.size + 1))] 77)).cell? ⟨w.heap.size + 1 + 1, 0, none⟩ = some (.map (some (w.heap.size + 1))) := by simp [go_sem]
  have HF := Lib.hid hF; have HB := Lib.hid hb
  generalize (((w.alloc (.cells #[.int .i64 regs, .slice bl ls.length cap] 24)).alloc (.map #[] 0)).alloc (.cells #[.map (some (w.heap.size + 1))] 77)) = w3 at *
  clear hF hb
  have HL2 := Lib.hid (HLives.out w.heap.size (w.heap.size + 1 + 1) (w.heap.size + 1) w3 (HI.out.below HB.out) h1 h2 HF.out)
  go_wp2_with fail
  refine HL2.out.mono ?_; rintro e w4 ⟨rfl, hc4, hs4⟩
  have HC4 := Lib.hid hc4
  have HB4 : Hid (Below w.heap.size w w4) := Lib.hid (HB.out.trans (hs4.below (by omega) HB.out.size))
  have k2 := hs4.cell (by omega) h2
  clear hc4 hs4 h0 h1 h2
  go_wp2_with fail
  go_ret
  exact ⟨⟨_, rfl, by omega, HC4.out⟩, HB4.out⟩
end Go.Proofs.Ytjfpaelmcepidaa.PK
namespace Go.Proofs.Ytjfpaelmcepidaa.PK
open Go.RowKit Go.Sort Go.Shelf

def lexC : List Int → List Int → Int
  | [], [] => 0
  | [], _ :: _ => -1
  | _ :: _, [] => 1
  | x :: a, y :: b => if x < y then -1 else if y < x then 1 else lexC a b
theorem isNaN_any (x : Int) (w : World) : Calls Try.prog 105 #[.int .i64 x] w fun e w' => e = .returned (.bool false) ∧ w' = w := by
  have hx : (x != x) = false := by simp
  go_enter Try.func105, Try.ntmps105
  go_wp2_with fail
  go_ret
  exact ⟨rfl, rfl⟩
theorem cmpI_any (x y : Int) (w : World) : Calls Try.prog 75 #[.int .i64 x, .int .i64 y] w fun e w' => e = .returned (.int .i64 (if x < y then -1 else if y < x then 1 else 0)) ∧ w' = w := by
  have HN := Lib.hid isNaN_any
  by_cases h1 : x < y
  · rw [if_pos h1]
    go_enter Try.func75, Try.ntmps75
    go_wp2_with fail
    refine (HN.out _ _).mono ?_; rintro e v ⟨rfl, rfl⟩
    go_wp2_with fail
    refine (HN.out _ _).mono ?_; rintro e v ⟨rfl, rfl⟩
    go_wp2_with fail
    go_ret
    exact ⟨rfl, rfl⟩
  · rw [if_neg h1]
    by_cases h2 : y < x
    · rw [if_pos h2]
      go_enter Try.func75, Try.ntmps75
      go_wp2_with fail
      refine (HN.out _ _).mono ?_; rintro e v ⟨rfl, rfl⟩
      go_wp2_with fail
      refine (HN.out _ _).mono ?_; rintro e v ⟨rfl, rfl⟩
      go_wp2_with fail
      go_ret
      exact ⟨rfl, rfl⟩
    · rw [if_neg h2]
      go_enter Try.func75, Try.ntmps75
      go_wp2_with fail
      refine (HN.out _ _).mono ?_; rintro e v ⟨rfl, rfl⟩
      go_wp2_with fail
      refine (HN.out _ _).mono ?_; rintro e v ⟨rfl, rfl⟩
      go_wp2_with fail
      go_ret
      exact ⟨rfl, rfl⟩
theorem lex_eq {x y : List Int} : ∀ k, k ≤ x.length → k ≤ y.length → (∀ j, j < k → x.getD j 0 = y.getD j 0) → lexC x y = lexC (x.drop k) (y.drop k)
  | 0, _, _, _ => by rw [List.drop_zero, List.drop_zero]
  | k + 1, h1, h2, h => by
    rw [lex_eq k (by omega) (by omega) fun j hj => h j (by omega)]
    have e := h k (by omega)
    rw [List.drop_eq_getElem_cons (show k < x.length by omega), List.drop_eq_getElem_cons (show k < y.length by omega)]
    rw [List.getD_eq_getElem?_getD, List.getElem?_eq_getElem (show k < x.length by omega), List.getD_eq_getElem?_getD, List.getElem?_eq_getElem (show k < y.length by omega)] at e
    simp only [Option.getD_some] at e
    conv => lhs; unfold lexC
    rw [if_neg (by omega), if_neg (by omega)]
theorem drop_cons {x : List Int} {k : Nat} (h : k < x.length) : x.drop k = x.getD k 0 :: x.drop (k + 1) := by
  rw [List.drop_eq_getElem_cons h, List.getD_eq_getElem?_getD, List.getElem?_eq_getElem h]; rfl
set_option maxHeartbeats 1000000 in
theorem cmpL_any (x y : List Int) (a b : Option Addr) (ca cb : Nat) (w : World) (ha : IntsIn w a x) (hb : IntsIn w b y) (hl : x.length ≤ 1000000) :
    Calls Try.prog 34 #[.slice a x.length ca, .slice b y.length cb] w fun e w' => e = .returned (.int .i64 (lexC x y)) ∧ w' = w := by
  have HA := Lib.hid ha; have HB := Lib.hid hb
  have HC := Lib.hid cmpI_any
  have HX := Lib.hid (@lex_eq x y)
  clear ha hb
  go_enter Try.func34, Try.ntmps34
  go_wp2_with fail
  go_loopw [11] (fun i wr => ∃ k : Nat, k ≤ x.length ∧ k ≤ y.length ∧ i = .int .i64 k ∧ w = wr ∧ Hid (∀ j, j < k → x.getD j 0 = y.getD j 0)) (fun i _ => x.length - (intOf i).toNat)
  case atStart => exact ⟨0, Nat.zero_le _, Nat.zero_le _, rfl, rfl, Lib.hid fun j hj => absurd hj (Nat.not_lt_zero _)⟩
  case round =>
    obtain ⟨k, hk, hk2, rfl, rfl, HE⟩ := hrel
    have HL := Lib.hid (HX.out k hk hk2 HE.out)
    by_cases hlt : k < x.length
    · obtain ⟨b1, o1, rfl, h1⟩ := HA.out k hlt
      have HD1 := Lib.hid (drop_cons hlt)
      have hki : (k : Int) < (x.length : Int) := by omega
      by_cases hlt2 : k < y.length
      · obtain ⟨b2, o2, rfl, h2⟩ := HB.out k hlt2
        have HD2 := Lib.hid (drop_cons hlt2)
        have hki2 : ¬ (y.length : Int) ≤ (k : Int) := by omega
        have hkd2 : decide ((y.length : Int) ≤ (k : Int)) = false := decide_eq_false hki2
        have HE1 : Hid (x.getD k 0 = y.getD k 0 → ∀ j, j < k + 1 → x.getD j 0 = y.getD j 0) := Lib.hid fun h j hj => by
          by_cases e : j = k
          · rw [e]; exact h
          · exact HE.out j (by omega)
        generalize x.getD k 0 = p at *
        generalize y.getD k 0 = q at *
        have HCC := Lib.hid (HC.out p q)
        by_cases c1 : p < q
        · rw [if_pos c1] at HCC
          have HR : Hid (lexC x y = -1) := Lib.hid (by rw [HL.out, HD1.out, HD2.out]; unfold lexC; rw [if_pos c1])
          clear c1
          go_wp2_with fail
          refine (HCC.out _).mono ?_; rintro e v ⟨rfl, rfl⟩
          go_wp2_with fail
          go_ret
          exact ⟨ret_int HR.out.symm, rfl⟩
        · rw [if_neg c1] at HCC
          by_cases c2 : q < p
          · rw [if_pos c2] at HCC
            have HR : Hid (lexC x y = 1) := Lib.hid (by rw [HL.out, HD1.out, HD2.out]; unfold lexC; rw [if_neg c1, if_pos c2])
            clear c1 c2
            go_wp2_with fail
            refine (HCC.out _).mono ?_; rintro e v ⟨rfl, rfl⟩
            go_wp2_with fail
            go_ret
            exact ⟨ret_int HR.out.symm, rfl⟩
          · rw [if_neg c2] at HCC
            have HPQ := Lib.hid (show p = q by omega)
            clear c1 c2
            go_wp2_with fail
            refine (HCC.out _).mono ?_; rintro e v ⟨rfl, rfl⟩
            go_wp2_with fail
            go_roundw
            case rel => exact ⟨k + 1, by omega, by omega, by go_num, by trivial, Lib.hid (HE1.out HPQ.out)⟩
            case measure => simp [intOf]; omega
      · have hki2 : (y.length : Int) ≤ (k : Int) := by omega
        have hkd2 : decide ((y.length : Int) ≤ (k : Int)) = true := decide_eq_true hki2
        have HR : Hid (lexC x y = 1) := Lib.hid (by rw [HL.out, HD1.out, List.drop_eq_nil_of_le (show y.length ≤ k by omega)]; rfl)
        go_wp2_with fail
        go_ret
        exact ⟨ret_int HR.out.symm, rfl⟩
    · have hki : ¬ (k : Int) < (x.length : Int) := by omega
      have hkx : x.length = k := by omega
      by_cases hxy : k < y.length
      · have h3 : (x.length : Int) < (y.length : Int) := by omega
        have HR : Hid (lexC x y = -1) := Lib.hid (by rw [HL.out, drop_cons hxy, List.drop_eq_nil_of_le (show x.length ≤ k by omega)]; rfl)
        go_wp2_with fail
        go_ret
        exact ⟨ret_int HR.out.symm, rfl⟩
      · have h3 : ¬ (x.length : Int) < (y.length : Int) := by omega
        have HR : Hid (lexC x y = 0) := Lib.hid (by rw [HL.out, List.drop_eq_nil_of_le (show y.length ≤ k by omega), List.drop_eq_nil_of_le (show x.length ≤ k by omega)]; rfl)
        go_wp2_with fail
        go_ret
        exact ⟨ret_int HR.out.symm, rfl⟩

/-! ### Pairs -/
def cmpH (p q : Int × Int) : Int := lexC [p.1, p.2] [q.1, q.2]
def ltH (p q : Int × Int) : Bool := decide (cmpH p q < 0)
theorem cmpH_lt (p q : Int × Int) : cmpH p q < 0 ↔ (p.1 < q.1 ∨ (p.1 = q.1 ∧ p.2 < q.2)) := by
  unfold cmpH lexC
  split
  · omega
  · split
    · omega
    · unfold lexC
      split
      · omega
      · split
        · omega
        · unfold lexC; omega
theorem ltH_iff {p q : Int × Int} : ltH p q = true ↔ (p.1 < q.1 ∨ (p.1 = q.1 ∧ p.2 < q.2)) := by
  unfold ltH
  rw [decide_eq_true_iff, cmpH_lt]
theorem ltH_no {p q : Int × Int} : ltH p q = false ↔ ¬ (p.1 < q.1 ∨ (p.1 = q.1 ∧ p.2 < q.2)) := by
  rw [← ltH_iff]; simp
theorem ltH_total {p q : Int × Int} (h1 : ltH p q = false) (h2 : ltH q p = false) : p = q := by
  rw [ltH_no] at h1 h2
  exact Prod.ext (by omega) (by omega)
theorem swoH : SWO (ltOf cmpH) where
  irrefl x := ltH_no.2 (by omega)
  trans x y z h1 h2 := ltH_iff.2 (by have := ltH_iff.1 h1; have := ltH_iff.1 h2; omega)
  ntrans x y z h1 h2 := ltH_no.2 (by have := ltH_no.1 h1; have := ltH_no.1 h2; omega)
def encHp (p : Int × Int) : List Value := [.int .i64 p.1, .int .i64 p.2]
/-- The pairs in ascending order. -/
def sortH (l : StrL) : StrL := l.mergeSort fun x y => !(ltOf cmpH) y x
theorem sortH_len (l : StrL) : (sortH l).length = l.length := List.length_mergeSort _
theorem getH (l : StrL) (q : Nat) : l.toArray[q]! = atH l q := by
  unfold atH
  rw [List.getD_eq_getElem?_getD]
  by_cases h : q < l.length
  · simp [h]
  · simp [h]; rfl
theorem flatH_get (l : StrL) (i : Nat) (h : i < l.length * 2) : (encH l)[i]? = some ((flatK encHp 2 l.toArray)[i]!) := by
  rw [get_flatK encHp 2 l.toArray i (by simpa using h), getH]
  obtain ⟨e0, e1⟩ := encH_get l (i / 2) (by omega)
  have hr : i % 2 = 0 ∨ i % 2 = 1 := by omega
  rcases hr with h | h
  · rw [h, show i = i / 2 * 2 by omega, e0, show i / 2 * 2 / 2 = i / 2 by omega]; rfl
  · rw [h, show i = i / 2 * 2 + 1 by omega, e1, show (i / 2 * 2 + 1) / 2 = i / 2 by omega]; rfl
theorem alloc_eq_grow (w : World) (o : Obj) : w.alloc o = grow w #[o] := by unfold World.alloc grow; rw [Array.push_eq_append]
theorem grow2 (w : World) (a b : Obj) : ((w.alloc a).alloc b) = grow w #[a, b] := by
  rw [alloc_eq_grow _ b, alloc_eq_grow _ a]
  rw [grow_grow]; rfl
set_option maxRecDepth 100000 in
set_option maxHeartbeats 1000000 in
theorem pcmp_any (p q : Int × Int) (w : World) : Calls Try.prog 33 #[.agg #[.int .i64 p.1, .int .i64 p.2], .agg #[.int .i64 q.1, .int .i64 q.2]] w fun e w' => e = .returned (.int .i64 (cmpH p q)) ∧ ∃ m os, w' = grow (w.drewN m) os := by
  unfold cmpH
  have h1 : IntsIn (((w.alloc (.cells #[.int .i64 p.1, .int .i64 p.2] 79)).alloc (.cells #[.int .i64 q.1, .int .i64 q.2] 79)).drew) (some ⟨w.heap.size, 0, none⟩) [p.1, p.2] := fun k hk => ⟨_, _, rfl, by
    match k, hk with
    | 0, _ => simp [go_sem]
    | 1, _ => simp [go_sem]⟩
  have h2 : IntsIn (((w.alloc (.cells #[.int .i64 p.1, .int .i64 p.2] 79)).alloc (.cells #[.int .i64 q.1, .int .i64 q.2] 79)).drew) (some ⟨w.heap.size + 1, 0, none⟩) [q.1, q.2] := fun k hk => ⟨_, _, rfl, by
    match k, hk with
    | 0, _ => simp [go_sem]
    | 1, _ => simp [go_sem]⟩
  have HC := Lib.hid (cmpL_any [p.1, p.2] [q.1, q.2] _ _ 2 2 _ h1 h2 (by simp))
  have HG := Lib.hid (grow2 w (.cells #[.int .i64 p.1, .int .i64 p.2] 79) (.cells #[.int .i64 q.1, .int .i64 q.2] 79))
  clear h1 h2
  go_enter Try.func33, Try.ntmps33
  go_wp2_with fail
  generalize ((w.alloc (.cells #[.int .i64 p.1, .int .i64 p.2] 79)).alloc (.cells #[.int .i64 q.1, .int .i64 q.2] 79)) = w0 at *
  refine wp_region_still_tail 3 (by kernel_rfl) (by kernel_rfl) ?_
  simp only [List.take_succ_cons, List.take_zero, List.drop_succ_cons, List.drop_zero]
  repeat (first | still_step | still_call HC.out)
  refine wpStill_nil ?_
  change wpList _ _ _ _ _ w0.drew
  go_wp2_with fail
  go_ret
  refine ⟨rfl, 1, #[.cells #[.int .i64 p.1, .int .i64 p.2] 79, .cells #[.int .i64 q.1, .int .i64 q.2] 79], ?_⟩
  show _ = grow w.drew #[.cells #[.int .i64 p.1, .int .i64 p.2] 79, .cells #[.int .i64 q.1, .int .i64 q.2] 79]
  have := congrArg World.drew HG.out
  exact this
theorem pcmp_enter : ∀ args w, (callFunc 33 args).run Try.prog w = .ok (.enter 33 args) w := enters_of Try.func33 (by kernel_rfl) rfl
theorem pcmp_lays (blk off size : Nat) (w : World) : CmpLays Try.prog 33 #[] encHp 2 cmpH blk off size w := fun m os dk _ x y => by
  show Calls Try.prog 33 #[.agg #[.int .i64 x.1, .int .i64 x.2], .agg #[.int .i64 y.1, .int .i64 y.2]] _ _
  exact pcmp_any x y _
theorem heap_sortedH {w : World} {g n : Nat} {os : Array Obj} {cur : Array Value} {e : TypeId} (d : Array (Int × Int)) (hb : w.heap[g]? = some (.cells cur e (0, 0))) :
    (sortWorldK encHp 2 w g 0 n d os).heap[g]? = some (.cells (putCells id 0 (flatK encHp 2 d) cur) e (0, 0)) := by
  have hlt : g < w.heap.size := lt_of_block hb
  unfold sortWorldK putRowK putRow mapBlock grow
  simp only [heap_ahead]
  rw [Array.getElem?_append_left (by simpa using hlt), Array.getElem?_modify, if_pos rfl, hb]
  rfl
theorem sort_frameH {w : World} {g n : Nat} {os : Array Obj} (d : Array (Int × Int)) : w.grownBy (sortWorldK encHp 2 w g 0 n d os) (some g) := by
  refine ⟨rfl, rfl, rfl, ?_, fun k hk hne => ?_⟩
  · unfold sortWorldK putRowK putRow mapBlock grow; simp
  · unfold sortWorldK putRowK putRow mapBlock grow
    simp only [heap_ahead]
    rw [Array.getElem?_append_left (by simpa using hk), Array.getElem?_modify, if_neg (fun e => hne (by rw [e]))]
theorem take_putH (cur : Array Value) (l : StrL) (h : l.length * 2 ≤ cur.size) : (putCells id 0 (flatK encHp 2 l.toArray) cur).toList.take (l.length * 2) = encH l := by
  apply List.ext_getElem?
  intro i
  by_cases hi : i < l.length * 2
  · rw [List.getElem?_take, if_pos hi, flatH_get l i hi]
    have hc : i < cur.size := by omega
    simp only [putCells, Array.getElem?_toList, Array.getElem?_mapIdx, Array.getElem?_eq_getElem hc, Option.map_some, size_flatK]
    rw [if_pos ⟨Nat.zero_le _, by simpa using hi⟩]
    rfl
  · rw [List.getElem?_take, if_neg hi, List.getElem?_eq_none (by rw [encH_len]; omega)]
theorem sortH_any (l : StrL) (v : Value) (B : Nat) (w : World) (ho : w.ownsRow B 79 2 v l.length (encH l)) (hl : l.length ≤ 1000000) :
    Calls Try.prog 32 #[v, .func (.func 33) #[] #[]] w fun e w' => e = .returned (.tuple #[]) ∧ w'.ownsRow B 79 2 v l.length (encH (sortH l)) ∧ w.grownBy w' v.ownBlock := by
  obtain ⟨hlen, ⟨rfl, h0⟩ | ⟨g, cap, cur, rfl, hb, hg, hnc, hm, hcs, ht⟩⟩ := ho
  · have : l = [] := List.length_eq_zero_iff.1 h0
    subst this
    refine (Try.slices_SortFunc_none (α := Int × Int) none 0 _ w).mono ?_
    rintro e w' ⟨rfl, rfl⟩
    exact ⟨rfl, ⟨by rw [encH_len, sortH_len], .inl ⟨rfl, rfl⟩⟩, ⟨rfl, rfl, rfl, Nat.le_refl _, fun _ _ _ => rfl⟩⟩
  · have hH : HoldsK encHp 2 w g 0 l.toArray := by
      intro j hj
      have hj2 : j < l.length * 2 := by simpa using hj
      refine ⟨?_, frozen_of_row w g _ _ _ hg⟩
      rw [Nat.zero_add, cell_of_row w g j _ _ _ hg]
      have := flatH_get l j hj2
      rw [← ht, List.getElem?_take, if_pos hj2] at this
      simpa using this
    have hs := Try.slices_SortFunc_total (α := Int × Int) 2 Try.isAgg79 Try.sizeOf79 encHp (fun _ => rfl) (fun x v hv => by simp only [encHp, List.mem_cons, List.not_mem_nil, or_false] at hv; rcases hv with rfl | rfl <;> rfl) cmpH swoH 33 #[] g 0 cap l.toArray w pcmp_enter (pcmp_lays g 0 _ w) hH (lt_of_block hg) (by simp; omega) (fun x y h1 h2 => ltH_total h1 h2)
    have e1 : l.toArray.size = l.length := by simp
    rw [e1] at hs
    refine hs.mono ?_
    rintro e w' ⟨rfl, n, os, rfl⟩
    refine ⟨rfl, ⟨by rw [encH_len, sortH_len], .inr ⟨g, cap, _, rfl, hb, heap_sortedH _ hg, hnc, hm, by simpa [putCells] using hcs, ?_⟩⟩, sort_frameH _⟩
    have := take_putH cur (sortH l) (by rw [sortH_len, hcs]; exact Nat.mul_le_mul_right _ hnc)
    rw [sortH_len] at this
    exact this
end Go.Proofs.Ytjfpaelmcepidaa.PK
namespace Go.Proofs.Ytjfpaelmcepidaa.PK
open Go.RowKit Go.Maps Go.Sort

/-- The list of the registers that clash. -/
structure IsClash (ls : List (List Cd)) (L : List (List Int)) (l : StrL) : Prop where
  sorted : l.Pairwise fun p q => ltH p q = true
  mem : ∀ p, p ∈ l ↔ Clashes ls (tabI L) p
theorem sorted_same : ∀ {l m : StrL}, (l.Pairwise fun p q => ltH p q = true) → (m.Pairwise fun p q => ltH p q = true) → (∀ p, p ∈ l ↔ p ∈ m) → l = m
  | [], [], _, _, _ => rfl
  | [], q :: m, _, _, h => absurd ((h q).2 (by simp)) (by simp)
  | p :: l, [], _, _, h => absurd ((h p).1 (by simp)) (by simp)
  | p :: l, q :: m, h1, h2, h => by
    rw [List.pairwise_cons] at h1 h2
    have e : p = q := by
      have hp := (h p).1 (by simp)
      have hq := (h q).2 (by simp)
      rcases List.mem_cons.1 hp with e | hp
      · exact e
      · rcases List.mem_cons.1 hq with e | hq
        · exact e.symm
        · exact absurd (ltH_iff.1 (h1.1 q hq)) (ltH_no.1 (by
            have := ltH_iff.1 (h2.1 p hp)
            rw [ltH_no]; omega))
    subst e
    have irr : ∀ {n : StrL}, (∀ q ∈ n, ltH p q = true) → p ∉ n := fun hn hm => by
      have := ltH_iff.1 (hn p hm); omega
    rw [sorted_same h1.2 h2.2 fun r => ?_]
    have := h r
    rw [List.mem_cons, List.mem_cons] at this
    constructor
    · intro hr
      rcases this.1 (.inr hr) with e | h3
      · subst e; exact absurd hr (irr h1.1)
      · exact h3
    · intro hr
      rcases this.2 (.inr hr) with e | h3
      · subst e; exact absurd hr (irr h2.1)
      · exact h3
theorem IsClash.unique {ls : List (List Cd)} {L : List (List Int)} {l m : StrL} (h : IsClash ls L l) (h' : IsClash ls L m) : l = m := sorted_same h.sorted h'.sorted fun p => (h.mem p).trans (h'.mem p).symm
theorem sortH_clash {ls : List (List Cd)} {L : List (List Int)} {zs : StrL} (hn : zs.Nodup) (hm : ∀ p, p ∈ zs ↔ Clashes ls (tabI L) p) : IsClash ls L (sortH zs) := by
  have hp : (sortH zs).Perm zs := List.mergeSort_perm _ _
  refine ⟨?_, fun p => hp.mem_iff.trans (hm p)⟩
  have h1 : (sortH zs).Pairwise fun x y => (!(ltOf cmpH) y x) = true := List.pairwise_mergeSort (fun a b c h1 h2 => by
      have h1 : ltH b a = false := (by simpa using h1 : ltOf cmpH b a = false)
      have h2 : ltH c b = false := (by simpa using h2 : ltOf cmpH c b = false)
      have : ltH c a = false := ltH_no.2 (by have := ltH_no.1 h1; have := ltH_no.1 h2; omega)
      show (!ltH c a) = true
      rw [this]; rfl) (fun a b => by
      show (!ltH b a || !ltH a b) = true
      cases h1 : ltH b a
      · rfl
      · have : ltH a b = false := ltH_no.2 (by have := ltH_iff.1 h1; omega)
        rw [this]; rfl) zs
  have h2 : (sortH zs).Nodup := hp.nodup_iff.2 hn
  refine (h1.and h2).imp fun {p q} h => ?_
  have h3 : ltH q p = false := (by simpa using h.1 : ltOf cmpH q p = false)
  cases h4 : ltH p q
  · exact absurd (ltH_total h4 h3) h.2
  · rfl
/-- How the list of the registers that clash comes back. -/
def ClPost (regs : Int) (ls : List (List Cd)) (L : List (List Int)) (w : World) (e : Ending) (w' : World) : Prop :=
  (if progErrW regs ls = 0 then ∃ a c l, e = .returned (.tuple #[.slice a l.length c, .int .i64 0]) ∧ IsClash ls L l ∧ l.length ≤ 1000000 ∧ StrIn w' a l else e = .returned (.tuple #[.slice none 0 0, .int .i64 (progErrW regs ls)])) ∧ Below w.heap.size w w'
theorem RangeAt.few {α β : Type} {P : Program} {k e : TypeId} {key : α → Lit} {vl : β → Lit} {V : α → Prop} {w : World} {b r cnt : Nat} {f : α → Option β} {left : Lit → Bool} {zs : List α} (h : RangeAt P k e key vl V w b r f left cnt) (hc : CollS key f left zs) {N : List α} (hN : ∀ a, V a → a ∈ N) : zs.length ≤ N.length := by
  obtain ⟨D, l, _, hM⟩ := h
  exact hc.few fun a ha => hN a (hM.ok a ((hM.mem a).2 ha))
theorem allP_million : allP.length = 1000000 := by
  have h : ∀ l : List Int, (l.flatMap fun x => allI.map fun y => (x, y)).length = l.length * 1000 := fun l => by
    induction l with
    | nil => rfl
    | cons x l ih =>
      rw [List.flatMap_cons, List.length_append, ih, List.length_map, List.length_cons, allI_thousand]
      omega
  unfold allP
  rw [h, allI_thousand]
def ClRel (mo r B : Nat) (f : Int × Int → Option Unit) (w : World) (v : Value) (wr : World) : Prop :=
  ∃ (left : Lit → Bool) (cnt : Nat) (zs : StrL), RangeAt Try.prog 79 4 keyP litT PV wr mo r f left cnt ∧ CollS keyP f left zs ∧ wr.ownsRow B 79 2 v zs.length (encH zs) ∧ Below w.heap.size w wr ∧ B ≤ wr.heap.size
set_option maxRecDepth 100000 in
set_option maxHeartbeats 2000000 in
theorem sClash_any (regs : Int) (ls : List (List Cd)) (L : List (List Int)) (bl : Option Addr) (cap : Nat) (w : World) (hl : ls.length ≤ 9223372036854775807) (hlm : ∀ k, k < ls.length → (atB ls k).length ≤ 9223372036854775807) (hL : LiveOf ls regs.toNat L) (hin : BlkIn w bl ls) :
    Calls Try.prog 13 #[.agg #[.int .i64 regs, .slice bl ls.length cap]] w (ClPost regs ls L w) := by
  have HV := Lib.hid (fun u (h : BlkIn u bl ls) => ValidateW_any regs ls bl cap u h hl hlm)
  have HC := Lib.hid (fun u (h : BlkIn u bl ls) hv => clashes_any regs ls L bl cap u hv hlm hL h)
  have HI := Lib.hid hin
  have h0 : (w.alloc (.cells #[.int .i64 regs, .slice bl ls.length cap] 24)).cell? ⟨w.heap.size, 0, none⟩ = some (.int .i64 regs) := by simp [go_sem]
  have h1 : (w.alloc (.cells #[.int .i64 regs, .slice bl ls.length cap] 24)).cell? ⟨w.heap.size, 1, none⟩ = some (.slice bl ls.length cap) := by simp [go_sem]
  have HB0 : Hid (Below w.heap.size w (w.alloc (.cells #[.int .i64 regs, .slice bl ls.length cap] 24))) := Lib.hid ((Below.refl _ _).alloc (Nat.le_refl _) _)
  clear hin hl hlm hL
  by_cases hv : progErrW regs ls = 0
  rotate_left
  · have HP : Hid (∀ w', Below w.heap.size w w' → ClPost regs ls L w (.returned (.tuple #[.slice none 0 0, .int .i64 (progErrW regs ls)])) w') := Lib.hid fun w' h => ⟨by rw [if_neg hv], h⟩
    have hne : (progErrW regs ls != 0) = true := bne_iff_ne.2 hv
    generalize progErrW regs ls = pe at *
    clear hv HC
    go_enter Try.func13, Try.ntmps13
    go_upto_region 1 with (fail)
    generalize w.alloc (.cells #[.int .i64 regs, .slice bl ls.length cap] 24) = w0 at *
    go_wp2_with fail
    refine (HV.out _ (HI.out.below HB0.out)).mono ?_; rintro e w1 ⟨rfl, hb1⟩
    have HF := Lib.hid (HP.out _ (HB0.out.trans (hb1.mono HB0.out.size)))
    clear hb1 h0 h1
    go_wp2_with fail
    go_ret2
    exact HF.out
  have HP : Hid (∀ w' a c l, IsClash ls L l → l.length ≤ 1000000 → StrIn w' a l → Below w.heap.size w w' → ClPost regs ls L w (.returned (.tuple #[.slice a l.length c, .int .i64 0])) w') := Lib.hid fun w' a c l h1 h2 h3 h4 => ⟨by rw [if_pos hv]; exact ⟨a, c, l, rfl, h1, h2, h3⟩, h4⟩
  have HC := Lib.hid (fun u h => HC.out u h hv)
  rw [hv] at HV
  have HSo := Lib.hid (fun (zs : StrL) h => @sortH_clash ls L zs h)
  obtain ⟨i0, hi, hz0, hz1, hz2⟩ := info_parts Try.infoPair
  generalize ClPost regs ls L w = PP at *
  generalize Clashes ls (tabI L) = CC at *
  clear hv
  go_enter Try.func13, Try.ntmps13
  go_upto_region 1 with (fail)
  generalize w.alloc (.cells #[.int .i64 regs, .slice bl ls.length cap] 24) = w0 at *
  go_wp2_with fail
  refine (HV.out _ (HI.out.below HB0.out)).mono ?_; rintro e w1 ⟨rfl, hb1⟩
  have HB1 := Lib.hid (HB0.out.trans (hb1.mono HB0.out.size))
  have k0 := keep h0 hb1; have k1 := keep h1 hb1
  clear hb1 h0 h1
  go_wp2_with fail
  refine (HC.out _ (HI.out.below HB1.out)).mono ?_; rintro e w2 ⟨⟨mo, rfl, hmo, hset⟩, hb2⟩
  obtain ⟨f, hf, hfs⟩ := hset
  have HB2 := Lib.hid (HB1.out.trans (hb2.mono HB1.out.size)); have HF := Lib.hid hf; have HFs := Lib.hid hfs
  clear hf hfs hb2 k0 k1
  go_wp2_with (first | (at_range; refine wpList_range_map w2 rfl _ 77 rfl Try.underlying77 pairKind mo f HF.out rfl ?_; intro w3 left0 cnt0 hr0 hc0 hg0 hs0))
  go_frame
  have HR0 := Lib.hid hr0; have HC0 := Lib.hid hc0
  have HB3 : Hid (Below w.heap.size w w3) := Lib.hid (HB2.out.grown hg0 HB2.out.size (fun k hk => (by cases hk)))
  have hz3 : w2.heap.size < w3.heap.size := by omega
  have hmo2 := HF.out.lt
  have HQ : Hid (w.heap.size ≤ w2.heap.size) := Lib.hid HB2.out.size
  clear hr0 hc0 hg0 hs0
  generalize hr : w2.heap.size = r at *
  clear hr
  generalize hB : w3.heap.size = B at *
  have HBe := Lib.hid hB; clear hB
  go_loopw [5] (fun v wr => ClRel mo r B f w v wr) (fun _ wr => wr.rangeLeft mo r)
  case atStart => exact ⟨_, _, [], HR0.out, HC0.out, owns_nil _ _ _ _, HB3.out, by rw [HBe.out]; exact Nat.le_refl _⟩
  case round =>
    obtain ⟨left, cnt, zs, hr, hc, ho, hb, hz⟩ := hrel
    have HR := Lib.hid hr; have HCl := Lib.hid hc; have HO := Lib.hid ho; have HB := Lib.hid hb
    have hzl : zs.length ≤ 1000000 := by
      have := hr.few hc allP_mem
      rw [allP_million] at this
      exact this
    have hne3 := hr.ne
    clear hr hc ho hb
    go_wp2_with (first | (at_next; refine wpList_next_map wr rfl _ rfl pairKind boolKind mo r cnt f left rfl HR.out ?_ ?_))
    · intro hl
      have HFin : Hid (∀ p, p ∈ zs ↔ CC p) := Lib.hid fun p => (HCl.out.fin hl p).trans (HFs.out p)
      have HIs := Lib.hid (HSo.out zs HCl.out.nd HFin.out)
      clear hl
      have HS := Lib.hid (sortH_any zs _ B wr HO.out hzl)
      have hgb : ∀ g, Value.ownBlock u5 = some g → w.heap.size ≤ g := fun g hg => by have := (owns_block HO.out hg).1; have := HQ.out; omega
      have HGb := Lib.hid hgb
      clear hgb
      go_wp2_with fail
      refine HS.out.mono ?_; rintro e w5 ⟨rfl, ho5, hg5⟩
      have HB5 := Lib.hid (HB.out.grown hg5 HB.out.size HGb.out)
      have HO5 := Lib.hid ho5
      clear ho5 hg5
      go_wp2_with fail
      have ho := HO5.out
      rw [← sortH_len zs] at ho
      obtain ⟨a, c, rfl, hs⟩ := strIn_of_owns ho
      exact HP.out _ _ _ _ HIs.out (by rw [sortH_len]; exact hzl) hs HB5.out
    · intro a b u w4 cnt4 hvz hfz hlz hr4 hlt4 hg4 hs4 hen
      have HC4 := Lib.hid (HR.out.coll pairKind HCl.out hfz hlz)
      have HM := Lib.hid hlt4
      have HSz := Lib.hid hs4
      clear hs4
      obtain ⟨a0, c0, rfl⟩ := owns_shape HO.out
      have ho4 : w4.ownsRow B 79 2 (.slice a0 zs.length c0) zs.length (encH zs) := HO.out.kept hg4 (by
        cases h : (Value.slice a0 zs.length c0).ownBlock with
        | none => exact .inl rfl
        | some g => exact .inr (fun e => by have := (owns_block HO.out h).1; simp only [Option.some.injEq] at e; omega))
      have HO4 := Lib.hid ho4; have HR4 := Lib.hid hr4
      have HB4 : Hid (Below w.heap.size w w4) := Lib.hid (HB.out.grown hg4 HB.out.size (fun k hk => by simp only [Option.some.injEq] at hk; have := HQ.out; omega))
      have hz4 : B ≤ w4.heap.size := by have := HSz.out; omega
      clear ho4 hvz hfz hlz hr4 hg4 hlt4
      have hvp : valP (a, b) = .agg #[.int .i64 a, .int .i64 b] := rfl
      simp only [hvp] at hen ⊢
      clear hvp
      have HN : Hid (∀ j u, [Value.int .i64 a, .int .i64 b][j]? = some u → ((w4.alloc (.cells #[.int .i64 a, .int .i64 b] 79)).alloc (.cells #[.int .i64 a, .int .i64 b] 79)).cell? ((⟨w4.heap.size + 1, 0, none⟩ : Addr).add j) = some u) := Lib.hid (by simpa using cell_two_at (w4.alloc (.cells #[.int .i64 a, .int .i64 b] 79)) (.int .i64 a) (.int .i64 b) 79)
      go_wp2_with (at_builtin; refine wpList_append_own _ rfl _ _ 40 rfl B 79 i0 (.agg #[.int .i64 0, .int .i64 0]) 2 16 Try.underlying40 hi hz0 hz1 hz2 rfl (by decide) _ _ _ rfl ((HO4.out.alloc _).alloc _) ⟨w4.heap.size + 1, 0, none⟩ 1 1 [.int .i64 a, .int .i64 b] rfl rfl HN.out (one_two a b) (by unfold maxLen; omega) (by omega) (by simp; omega) ?_; intro v' w5 hown5 hgrow _)
      have HO5 : Hid (w5.ownsRow B 79 2 v' (zs ++ [(a, b)]).length (encH (zs ++ [(a, b)]))) := Lib.hid (by rw [encH_snoc]; simpa using hown5)
      have hne5 : ∀ g, (Value.slice a0 zs.length c0).ownBlock = some g → B ≤ g := fun g hg => (owns_block HO4.out hg).1
      have HR5 := Lib.hid (((HR4.out.alloc (.cells #[.int .i64 a, .int .i64 b] 79)).alloc (.cells #[.int .i64 a, .int .i64 b] 79)).kept hgrow (fun e => by have := hne5 _ e.symm; omega) (fun e => by have := hne5 _ e.symm; omega))
      have HB5 : Hid (Below w.heap.size w w5) := Lib.hid (((HB4.out.alloc HB4.out.size _).alloc (by have := HB4.out.size; simp; omega) _).grown hgrow (by have := HB4.out.size; simp; omega) (fun k hk => by have := hne5 k hk; have := HQ.out; omega))
      have HZ5 : Hid (B ≤ w5.heap.size) := Lib.hid (by have := hgrow.size; simp at this; omega)
      clear hown5 hgrow hne5
      go_roundw
      case rel => exact ⟨_, cnt4, _, HR5.out, HC4.out, HO5.out, HB5.out, HZ5.out⟩
      case measure => rw [HR5.out.left_eq, HR.out.left_eq]; exact HM.out
end Go.Proofs.Ytjfpaelmcepidaa.PK
