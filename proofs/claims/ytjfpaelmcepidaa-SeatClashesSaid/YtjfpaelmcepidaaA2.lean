/- Which registers clash, plainly; the walk of what clashes does at an instruction. -/
import Derived.Test.YtjfpaelmcepidaaVS
import Derived.Test.YtjfpaelmcepidaaJ1
namespace Go.Proofs.Ytjfpaelmcepidaa.PK

/-- The registers that may be read behind instruction i. -/
def behB (l : List Cd) (i : Nat) (inn : Int → Int → Bool) (r : Int) : Bool := liveL (l.drop (i + 1)) inn r || (fT (atC l i).op && inn (atC l i).to r)
theorem behB_next {l : List Cd} {i : Nat} (h : i < l.length) (inn : Int → Int → Bool) (r : Int) : liveL (l.drop i) inn r = (usesB (atC l i) r || (!defB (atC l i) r && behB l i inn r)) := by
  rw [liveL_drop l i h]
  unfold behB
  cases hT : fT (atC l i).op
  · simp
  · rw [defB_fT hT]
    cases usesB (atC l i) r <;> simp
/-- Whether a register that may be read behind an instruction clashes with what it writes. -/
def okC (x : Cd) (B : Int → Bool) (r : Int) : Bool := B r && !decide (r = x.d) && !(decide (x.op = 1) && decide (r = x.a))
/-- Whether an instruction makes two registers clash. -/
def PairC (x : Cd) (B : Int → Bool) (p : Int × Int) : Prop := fD x.op = true ∧ ∃ r, okC x B r = true ∧ p = (min r x.d, max r x.d)
/-- What has been found before instruction i of block b (backward through a block, forward through the blocks). -/
def Fnd (ls : List (List Cd)) (inn : Int → Int → Bool) (b i : Nat) (p : Int × Int) : Prop :=
  ∃ b' i', i' < (atB ls b').length ∧ (b' < b ∨ (b' = b ∧ i ≤ i')) ∧ PairC (atC (atB ls b') i') (behB (atB ls b') i' inn) p
theorem Fnd.start (ls : List (List Cd)) (inn : Int → Int → Bool) (p : Int × Int) : ¬ Fnd ls inn 0 (atB ls 0).length p := by
  rintro ⟨b', i', h1, h2 | ⟨rfl, h2⟩, _⟩ <;> omega
theorem Fnd.turn (ls : List (List Cd)) (inn : Int → Int → Bool) (b : Nat) (p : Int × Int) : Fnd ls inn (b + 1) (atB ls (b + 1)).length p ↔ Fnd ls inn b 0 p := by
  constructor
  · rintro ⟨b', i', h1, h2, h3⟩
    refine ⟨b', i', h1, ?_, h3⟩
    rcases h2 with h2 | ⟨rfl, h2⟩
    · by_cases c : b' = b
      · exact .inr ⟨c, Nat.zero_le _⟩
      · exact .inl (by omega)
    · omega
  · rintro ⟨b', i', h1, h2, h3⟩
    refine ⟨b', i', h1, .inl ?_, h3⟩
    rcases h2 with h2 | ⟨rfl, h2⟩ <;> omega
theorem Fnd.step {ls : List (List Cd)} {inn : Int → Int → Bool} {b i : Nat} (h : i < (atB ls b).length) (p : Int × Int) : Fnd ls inn b i p ↔ (Fnd ls inn b (i + 1) p ∨ PairC (atC (atB ls b) i) (behB (atB ls b) i inn) p) := by
  constructor
  · rintro ⟨b', i', h1, h2, h3⟩
    by_cases c : b' = b ∧ i' = i
    · obtain ⟨rfl, rfl⟩ := c; exact .inr h3
    · refine .inl ⟨b', i', h1, ?_, h3⟩
      rcases h2 with h2 | ⟨h2, h4⟩
      · exact .inl h2
      · exact .inr ⟨h2, by omega⟩
  · rintro (⟨b', i', h1, h2, h3⟩ | h3)
    · refine ⟨b', i', h1, ?_, h3⟩
      rcases h2 with h2 | ⟨h2, h4⟩
      · exact .inl h2
      · exact .inr ⟨h2, by omega⟩
    · exact ⟨b, i, h, .inr ⟨rfl, Nat.le_refl _⟩, h3⟩
/-- Two registers clash. -/
def Clashes (ls : List (List Cd)) (inn : Int → Int → Bool) (p : Int × Int) : Prop := Fnd ls inn ls.length (atB ls ls.length).length p
theorem PairC.lt {x : Cd} {B : Int → Bool} {p : Int × Int} (h : PairC x B p) : p.1 < p.2 := by
  obtain ⟨_, r, h, rfl⟩ := h
  unfold okC at h
  simp at h
  simp; omega
theorem Fnd.lt {ls : List (List Cd)} {inn : Int → Int → Bool} {b i : Nat} {p : Int × Int} (h : Fnd ls inn b i p) : p.1 < p.2 := by
  obtain ⟨_, _, _, _, h⟩ := h
  exact h.lt
/-- What is within bounds. -/
def InR (regs : Int) (p : Int × Int) : Prop := 0 ≤ p.1 ∧ p.1 < regs ∧ 0 ≤ p.2 ∧ p.2 < regs
theorem PairC.inR {x : Cd} {B : Int → Bool} {p : Int × Int} {regs : Int} (h : PairC x B p) (hB : ∀ r, B r = true → 0 ≤ r ∧ r < regs) (hd : fD x.op = true → 0 ≤ x.d ∧ x.d < regs) : InR regs p := by
  obtain ⟨h0, r, h, rfl⟩ := h
  have h2 := hd h0
  unfold okC at h
  simp at h
  have h1 := hB r h.1.1
  unfold InR
  simp; omega
/-- What a table says of a register. -/
def tabI (L : List (List Int)) (b r : Int) : Bool := decide (r ∈ L.getD b.toNat [])
theorem liveL_in {inn : Int → Int → Bool} {regs : Int} (hi : ∀ b r, inn b r = true → 0 ≤ r ∧ r < regs) : ∀ (l : List Cd) (r : Int), (∀ x ∈ l, ∀ u ∈ usesL x, 0 ≤ u ∧ u < regs) → liveL l inn r = true → 0 ≤ r ∧ r < regs
  | [], _, _, h => by cases h
  | x :: l, r, hu, h => by
    unfold liveL at h
    simp only [Bool.or_eq_true, Bool.and_eq_true] at h
    rcases h with (h | ⟨_, h⟩) | ⟨_, h⟩
    · exact hu x (by simp) r (by unfold usesB at h; simpa using h)
    · exact liveL_in hi l r (fun y hy => hu y (by simp [hy])) h
    · exact hi _ _ h
end Go.Proofs.Ytjfpaelmcepidaa.PK
namespace Go.Proofs.Ytjfpaelmcepidaa.PK
open Go.RowKit Go.Maps

theorem relC_skip {x : Cd} {B : Int → Bool} {F : Int × Int → Prop} {zs : List Int} {z : Int} (h : okC x B z = false) (p : Int × Int) : (F p ∨ ∃ y ∈ zs, okC x B y = true ∧ p = (min y x.d, max y x.d)) ↔ (F p ∨ ∃ y ∈ zs ++ [z], okC x B y = true ∧ p = (min y x.d, max y x.d)) := by
  constructor
  · rintro (h1 | ⟨y, h1, h2⟩)
    · exact .inl h1
    · exact .inr ⟨y, List.mem_append_left _ h1, h2⟩
  · rintro (h1 | ⟨y, h1, h2, h3⟩)
    · exact .inl h1
    · rcases List.mem_append.1 h1 with h1 | h1
      · exact .inr ⟨y, h1, h2, h3⟩
      · obtain rfl : y = z := by simpa using h1
        rw [h] at h2; cases h2
theorem relC_put {x : Cd} {B : Int → Bool} {F : Int × Int → Prop} {zs : List Int} {z : Int} (h : okC x B z = true) (p : Int × Int) : (p = (min z x.d, max z x.d) ∨ (F p ∨ ∃ y ∈ zs, okC x B y = true ∧ p = (min y x.d, max y x.d))) ↔ (F p ∨ ∃ y ∈ zs ++ [z], okC x B y = true ∧ p = (min y x.d, max y x.d)) := by
  constructor
  · rintro (h1 | h1 | ⟨y, h1, h2⟩)
    · exact .inr ⟨z, by simp, h, h1⟩
    · exact .inl h1
    · exact .inr ⟨y, List.mem_append_left _ h1, h2⟩
  · rintro (h1 | ⟨y, h1, h2, h3⟩)
    · exact .inr (.inl h1)
    · rcases List.mem_append.1 h1 with h1 | h1
      · exact .inr (.inr ⟨y, h1, h2, h3⟩)
      · obtain rfl : y = z := by simpa using h1
        exact .inl h3
theorem save_next {w w' w'' : World} {mo r : Nat} (h : Save mo w w') (hg : w'.grownBy w'' (some r)) (hr : w.heap.size ≤ r) : Save mo w w'' :=
  ⟨hg.os.trans h.os, hg.tape.trans h.tape, hg.output.trans h.output, Nat.le_trans h.size hg.size, fun k hk hq => (hg.block k (Nat.lt_of_lt_of_le hk h.size) (by simp; omega)).trans (h.block k hk hq)⟩
/-- How things stand among the registers that may be read. -/
def LookRel (w1 : World) (lm mo r : Nat) (fL : Int → Option Unit) (x : Cd) (B : Int → Bool) (F : Int × Int → Prop) (wr : World) : Prop :=
  ∃ (left : Lit → Bool) (cnt : Nat) (zs : List Int), RangeAt Try.prog 3 4 keyI litT KV wr lm r fL left cnt ∧ CollS keyI fL left zs ∧ SetP wr mo (fun p => F p ∨ ∃ z ∈ zs, okC x B z = true ∧ p = (min z x.d, max z x.d)) ∧ Save mo w1 wr
set_option maxRecDepth 100000 in
set_option maxHeartbeats 1000000 in
theorem look_any (ls : List (List Cd)) (bl : Option Addr) (cap b i Bp Bo mo lm : Nat) (B : Int → Bool) (F : Int × Int → Prop) (w : World) (hb : b < ls.length) (hi : i < (atB ls b).length)
    (hin : BlkIn w bl ls) (hp : w.cell? ⟨Bp, 1, none⟩ = some (.slice bl ls.length cap)) (ho : w.cell? ⟨Bo, 0, none⟩ = some (.map (some mo)))
    (hL : SetI w lm fun x => B x = true) (hF : SetP w mo F) (hne : lm ≠ mo) (hc : isCodeB (atC (atB ls b) i) 200 400 = true) (hB : ∀ x, B x = true → 0 ≤ x ∧ x < 200) :
    Calls Try.prog 72 #[.int .i64 (b : Int), .int .i64 (i : Int), .map (some lm), .pointer (some ⟨Bp, 0, none⟩), .pointer (some ⟨Bo, 0, none⟩)] w
      fun e w' => e = .returned (.tuple #[]) ∧ SetP w' mo (fun p => F p ∨ PairC (atC (atB ls b) i) B p) ∧ Save mo w w' := by
  obtain ⟨bb, boff, la, lcap, rfl, hcell, hcds⟩ := hin b hb
  obtain ⟨cb, coff, rfl, hx⟩ := hcds i hi
  generalize atC (atB ls b) i = x at *
  generalize (atB ls b).length = m at *
  obtain ⟨x0, x1, x2, x3, x4, x5⟩ := hx
  have hbi : (b : Int) < (ls.length : Int) := by omega
  have hii : (i : Int) < (m : Int) := by omega
  have HD := Lib.hid (Defines_any x hc)
  have HDr := Lib.hid (code_parts hc).2.1
  have HL := Lib.hid hL; have HF := Lib.hid hF; have HB := Lib.hid hB
  clear hL hF hB hin hcds hc
  generalize ls.length = p at *
  go_enter Try.func72, Try.ntmps72
  go_wp2_with fail
  refine (HD.out _).mono ?_; rintro e w1 ⟨rfl, hb1⟩
  have hB1 : Below w.heap.size w w1 := ((Below.refl _ _).alloc (Nat.le_refl _) _).trans (hb1.mono (by simp))
  have k0 := keep ho hB1
  have y0 : w1.cell? ⟨w.heap.size, 0, none⟩ = some (.int .i64 x.op) := keep (by simp [go_sem]) hb1
  have y2 : w1.cell? ⟨w.heap.size, 2, none⟩ = some (.int .i64 x.a) := keep (by simp [go_sem]) hb1
  have HB1 := Lib.hid hB1
  have hq1 : w.heap.size < w1.heap.size := block_lt_of_cell y0
  clear hb1 hB1 hp hcell x0 x1 x2 x3 x4 x5
  cases hd : fD x.op
  · go_wp2_with fail
    refine bodyPost_ret (results_none rfl _ _ _) rfl ?_
    refine ⟨rfl, (HF.out.below HB1.out).congr fun p => ?_, Save.of_below HB1.out⟩
    constructor
    · exact .inl
    · rintro (h | ⟨h, _⟩)
      · exact h
      · rw [hd] at h; cases h
  have HL1 := Lib.hid (HL.out.below HB1.out); have HF1 := Lib.hid (HF.out.below HB1.out)
  obtain ⟨fL, hfL, hfB⟩ := HL1.out
  have HfL := Lib.hid hfL; have HfB := Lib.hid hfB
  have hmoB : Bo ≠ mo := HF1.out.ne k0
  have hmoq : w.heap.size ≠ mo := HF1.out.ne y0
  have hmol := HF.out.lt
  clear hfL hfB
  go_wp2_with (first | (at_range; refine wpList_range_map w1 rfl _ 99 rfl Try.underlying99 intKind lm fL HfL.out rfl ?_; intro w2 left0 cnt0 hr0 hc0 hg0 hs0))
  go_frame
  have HR0 := Lib.hid hr0; have HC0 := Lib.hid hc0
  have HS0 : Hid (Save mo w1 w2) := Lib.hid ⟨hg0.os, hg0.tape, hg0.output, hg0.size, fun k hk _ => hg0.block k hk (by simp)⟩
  have HF2 := Lib.hid (HF1.out.kept hg0 (by simp))
  have HZ2 : Hid (w1.heap.size < w2.heap.size) := Lib.hid (by omega)
  clear hr0 hc0 hg0 hs0
  generalize hr : w1.heap.size = r at *
  have HRr := Lib.hid hr; clear hr
  go_loopw [12] (fun _ wr => LookRel w1 lm mo r fL x B F wr)
    (fun _ wr => wr.rangeLeft lm r)
  case atStart => exact ⟨_, _, [], HR0.out, HC0.out, HF2.out.congr fun p => (by simp), HS0.out⟩
  case round =>
    obtain ⟨left, cnt, zs, hr, hc, hf, hs⟩ := hrel
    have HR := Lib.hid hr; have HC := Lib.hid hc; have HFr := Lib.hid hf; have HS := Lib.hid hs
    have hne3 := hr.ne
    clear hr hc hf hs
    go_wp2_with (first | (at_next; refine wpList_next_map wr rfl _ rfl intKind boolKind lm r cnt fL left rfl HR.out ?_ ?_))
    · intro hl
      have HFin := Lib.hid (HC.out.fin hl)
      clear hl
      go_wp2_with fail
      go_end0
      refine ⟨rfl, HFr.out.congr fun p => ?_, (Save.of_below HB1.out).trans HS.out⟩
      have : (∃ z ∈ zs, okC x B z = true ∧ p = (min z x.d, max z x.d)) ↔ PairC x B p := by
        unfold PairC
        constructor
        · rintro ⟨z, _, h1, h2⟩; exact ⟨hd, z, h1, h2⟩
        · rintro ⟨_, z, h1, h2⟩
          refine ⟨z, (HFin.out z).2 ((HfB.out z).2 ?_), h1, h2⟩
          unfold okC at h1; simp at h1; exact h1.1.1
      rw [this]
    · intro z u w3 cnt3 hvz hfz hlz hr3 hlt3 hg3 hs3 hen
      have HC3 := Lib.hid (HR.out.coll intKind HC.out hfz hlz)
      have hbz : B z = true := (HfB.out z).1 (by rw [hfz]; rfl)
      have HS3 : Hid (Save mo w1 w3) := Lib.hid (save_next HS.out hg3 (by rw [HRr.out]; exact Nat.le_refl _))
      have HR3 := Lib.hid hr3
      have hrm : r ≠ mo := by have := HF1.out.lt; have := HRr.out; omega
      have HF3 := Lib.hid (HFr.out.kept hg3 (by simp; omega))
      have HM := Lib.hid hlt3
      have hzB := HB.out z hbz
      have hdB := HDr.out hd
      have z0 := HS3.out.cell hmoq y0; have z2 := HS3.out.cell hmoq y2; have zk := HS3.out.cell hmoB k0
      clear hr3 hg3 hfz hlz hs3 hlt3
      by_cases e1 : z = x.d
      · have f1 : (z != x.d) = false := by simp [e1]
        have HK : Hid (okC x B z = false) := Lib.hid (by unfold okC; simp [e1])
        clear e1
        go_wp2_with fail
        go_roundw
        case rel => exact ⟨_, cnt3, zs ++ [z], HR3.out, HC3.out, HF3.out.congr (relC_skip HK.out), HS3.out⟩
        case measure => rw [HR3.out.left_eq, HR.out.left_eq]; exact HM.out
      have f1 : (z != x.d) = true := by simp [e1]
      have HV : Hid (PV (min z x.d, max z x.d)) := Lib.hid (by unfold PV KV; simp; omega)
      have HPut : Hid (okC x B z = true → ∀ p, (p = (min z x.d, max z x.d) ∨ (F p ∨ ∃ y ∈ zs, okC x B y = true ∧ p = (min y x.d, max y x.d))) ↔ (F p ∨ ∃ y ∈ zs ++ [z], okC x B y = true ∧ p = (min y x.d, max y x.d))) := Lib.hid relC_put
      obtain ⟨fF, hfF, hfS⟩ := HF3.out
      have HfF := Lib.hid hfF; have HfS := Lib.hid hfS
      clear hfF hfS
      cases f2 : (x.op == 1)
      · have HK : Hid (okC x B z = true) := Lib.hid (by unfold okC; simp [hbz, e1]; left; simpa using f2)
        clear e1
        go_wp2_with (at_mapUpdate; refine wpList_put_map _ rfl _ _ _ 77 rfl Try.underlying77 pairKind boolKind allP allP_mem allP_len mo fF HfF.out rfl (min z x.d, max z x.d) () HV.out trivial rfl rfl ?_; intro w4 hf4 hg4)
        have HF4 : Hid (SetP w4 mo _) := Lib.hid ⟨_, hf4, fun p => ((updF_some _ _ _ _).trans (or_congr Iff.rfl (HfS.out p))).trans (HPut.out HK.out p)⟩
        have HR4 := Lib.hid (HR3.out.kept hg4 (by simp; omega) (by simp; omega))
        have HS4 := Lib.hid (HS3.out.trans (save_grownB hg4))
        clear hf4 hg4
        go_roundw
        case rel => exact ⟨_, cnt3, zs ++ [z], HR4.out, HC3.out, HF4.out, HS4.out⟩
        case measure => rw [HR4.out.left_eq, HR.out.left_eq]; exact HM.out
      cases f3 : (z == x.a)
      · have HK : Hid (okC x B z = true) := Lib.hid (by unfold okC; simp [hbz, e1]; right; simpa using f3)
        clear e1
        go_wp2_with (at_mapUpdate; refine wpList_put_map _ rfl _ _ _ 77 rfl Try.underlying77 pairKind boolKind allP allP_mem allP_len mo fF HfF.out rfl (min z x.d, max z x.d) () HV.out trivial rfl rfl ?_; intro w4 hf4 hg4)
        have HF4 : Hid (SetP w4 mo _) := Lib.hid ⟨_, hf4, fun p => ((updF_some _ _ _ _).trans (or_congr Iff.rfl (HfS.out p))).trans (HPut.out HK.out p)⟩
        have HR4 := Lib.hid (HR3.out.kept hg4 (by simp; omega) (by simp; omega))
        have HS4 := Lib.hid (HS3.out.trans (save_grownB hg4))
        clear hf4 hg4
        go_roundw
        case rel => exact ⟨_, cnt3, zs ++ [z], HR4.out, HC3.out, HF4.out, HS4.out⟩
        case measure => rw [HR4.out.left_eq, HR.out.left_eq]; exact HM.out
      · have HK : Hid (okC x B z = false) := Lib.hid (by
          have h1 : x.op = 1 := by simpa using f2
          have h2 : z = x.a := by simpa using f3
          unfold okC; rw [decide_eq_true h1, decide_eq_true h2]; simp)
        clear e1
        go_wp2_with fail
        go_roundw
        case rel => exact ⟨_, cnt3, zs ++ [z], HR3.out, HC3.out, HF3.out.congr (relC_skip HK.out), HS3.out⟩
        case measure => rw [HR3.out.left_eq, HR.out.left_eq]; exact HM.out
end Go.Proofs.Ytjfpaelmcepidaa.PK
namespace Go.Proofs.Ytjfpaelmcepidaa.PK
open Go.RowKit Go.Maps

theorem BlkIn.saveP {w w' : World} {bl : Option Addr} {ls : List (List Cd)} {mo : Nat} {F : Int × Int → Prop} (h : BlkIn w bl ls) (hs : Save mo w w') (hF : SetP w mo F) : BlkIn w' bl ls := fun k hk => by
  obtain ⟨b, off, a, cap, rfl, hc, hi⟩ := h k hk
  refine ⟨b, off, a, cap, rfl, hs.cell (hF.ne hc) hc, fun j hj => ?_⟩
  obtain ⟨b2, off2, rfl, c⟩ := hi j hj
  exact ⟨b2, off2, rfl, hs.cell (hF.ne c.c0) c.c0, hs.cell (hF.ne c.c1) c.c1, hs.cell (hF.ne c.c2) c.c2, hs.cell (hF.ne c.c3) c.c3, hs.cell (hF.ne c.c4) c.c4, hs.cell (hF.ne c.c5) c.c5⟩
theorem RowsIn.saveP {w w' : World} {a : Option Addr} {g : List (List Int)} {mo : Nat} {F : Int × Int → Prop} (h : RowsIn w a g) (hs : Save mo w w') (hF : SetP w mo F) : RowsIn w' a g := fun k hk => by
  obtain ⟨b, off, a, cap, rfl, hc, hi⟩ := h k hk
  refine ⟨b, off, a, cap, rfl, hs.cell (hF.ne hc) hc, fun j hj => ?_⟩
  obtain ⟨b2, off2, rfl, c⟩ := hi j hj
  exact ⟨b2, off2, rfl, hs.cell (hF.ne c) c⟩
theorem CdAt.save {w w' : World} {q off b : Nat} {x : Cd} (c : CdAt w q off x) (hs : Save b w w') (hq : q ≠ b) : CdAt w' q off x :=
  ⟨hs.cell hq c.c0, hs.cell hq c.c1, hs.cell hq c.c2, hs.cell hq c.c3, hs.cell hq c.c4, hs.cell hq c.c5⟩
theorem picks_in {f : Nat → Bool} {n : Nat} {r : Int} (h : r ∈ picks f n) : 0 ≤ r ∧ r < n := by
  unfold picks at h
  rw [List.mem_map] at h
  obtain ⟨k, hk, rfl⟩ := h
  have := List.mem_range.1 (List.mem_filter.1 hk).1
  omega
theorem LiveOf.mem {ls : List (List Cd)} {regs : Nat} {L : List (List Int)} (h : LiveOf ls regs L) {k : Nat} {r : Int} (hr : r ∈ L.getD k []) : 0 ≤ r ∧ r < regs := by
  obtain ⟨f, _, rfl⟩ := h
  by_cases hk : k < ls.length
  · rw [rowsFn_get _ hk] at hr
    exact picks_in hr
  · rw [List.getD_eq_getElem?_getD, List.getElem?_eq_none (by rw [rowsFn_len]; omega)] at hr
    cases hr
theorem tabI_in {ls : List (List Cd)} {regs : Int} {L : List (List Int)} (h : LiveOf ls regs.toNat L) (h0 : 0 ≤ regs) (b r : Int) (hr : tabI L b r = true) : 0 ≤ r ∧ r < regs := by
  have := h.mem (of_decide_eq_true hr)
  omega
theorem mem_take_succ {l : List Int} {m : Nat} (h : m < l.length) (r : Int) : r ∈ l.take (m + 1) ↔ r = l.getD m 0 ∨ r ∈ l.take m := by
  rw [List.take_succ_eq_append_getElem h, List.mem_append, List.mem_singleton, List.getD_eq_getElem?_getD, List.getElem?_eq_getElem h]
  exact Or.comm
/-- What a range over a list of numbers adds to a set. -/
theorem addRow_step {S : Int → Prop} {l : List Int} {m : Nat} (h : m < l.length) (r : Int) : (r = l.getD m 0 ∨ (S r ∨ r ∈ l.take m)) ↔ (S r ∨ r ∈ l.take (m + 1)) := by
  rw [mem_take_succ h]
  constructor
  · rintro (h | h | h)
    · exact .inr (.inl h)
    · exact .inl h
    · exact .inr (.inr h)
  · rintro (h | h | h)
    · exact .inr (.inl h)
    · exact .inl h
    · exact .inr (.inr h)
end Go.Proofs.Ytjfpaelmcepidaa.PK
