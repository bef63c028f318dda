/- Packed of several texts. -/
import Derived.Test.YtbbbflnnbbaamaaGreatDoorH43
namespace Go.Proofs.YtbbbflnnbbaamaaGreatDoor.PK
open Go.RowKit

def InsR (F : Fun) (L : List Int) (x : Ins) (r : Int) : Prop :=
 (x.op = 0 ∧ r = x.im) ∨
 (x.op = 14 ∧ ∃ a b n, argL L x.ar = [a, b] ∧ (argL (kdsI F) x.ar).getD 0 0 = n ∧ x.im ≤ 9 ∧ isNum n = true ∧ isW a ∧ isW b ∧ a ≤ mxI n ∧ b ≤ mxI n ∧ r = if cmpW x.im n a b then 1 else 0) ∨
 (x.op = 1 ∧ x.fl = 0 ∧ ∃ a b, argL L x.ar = [a, b] ∧ isNum x.wd = true ∧ isW a ∧ isW b ∧ a ≤ mxI x.wd ∧ b ≤ mxI x.wd ∧ r = (a + b) % 2 ^ x.wd.toNat)
theorem wResult_any (F : Fun) (q : Nat) (L : List Int) (x : Ins) (r : Int) (aa ta : Option Addr) (ca ct : Nat) (la ka : Option Addr) (lc kc : Nat) (w : World) (h : InsR F L x r) (hv : ValsIn w la (argL L x.ar)) (hk : IntsIn w ka (argL (kdsI F) x.ar)) :
  Calls Tryz.prog 89 #[.pointer (some ⟨q, 0, none⟩), insV x aa ta ca ct, .slice la x.ar.length lc, .slice ka x.ar.length kc] w fun e w' => e = .returned (.tuple #[valV r, .bool true]) ∧ Below w.heap.size w w' := by
 rcases h with ⟨ho, rfl⟩ | ⟨ho, a, b, n, h1, h2, h3, h4, h5, h6, h7, h8, rfl⟩ | ⟨ho, hf, a, b, h1, h4, h5, h6, h7, h8, rfl⟩
 ·exact wResult_const q x aa ta ca ct la ka x.ar.length lc x.ar.length kc w ho
 ·have hl : x.ar.length = 2 := by have := argL_len L x.ar; rw [h1] at this; simpa using this.symm
  rw [h1] at hv
  obtain ⟨kb, ko, hke, hk0⟩ := hk 0 (by rw [argL_len]; omega)
  rw [h2, Nat.add_zero] at hk0
  rw [hl]
  exact wResult_two q x aa ta ca ct a b _ la ka lc 2 kc w (.inr ho) hv fun u hu => wSimple_cmp q x aa ta ca ct n a b la ka lc kc 2 u ho h3 h4 h5 h6 h7 h8 (hv.below hu) kb ko hke (keep hk0 hu) (by omega)
 ·have hl : x.ar.length = 2 := by have := argL_len L x.ar; rw [h1] at this; simpa using this.symm
  rw [h1] at hv
  rw [hl]
  exact wResult_two q x aa ta ca ct a b _ la ka lc 2 kc w (.inl ho) hv fun u hu => wSimple_add q x aa ta ca ct a b la ka lc kc 2 u ho hf h4 h5 h6 h7 h8 (hv.below hu)
theorem WkAt.grown {w w' : World} {base q v h : Nat} {F : Fun} {A : FunA} {bb : Value} {L : List Int} {s : Int} (x : WkAt w base q v h F A bb L s) {row : Option Nat} (hg : w.grownBy w' row) (h1 : row ≠ some q) (h2 : row ≠ some v) (h3 : row ≠ some h) : WkAt w' base q v h F A bb L s := by
 obtain ⟨l1, _⟩ := x.lt
 obtain ⟨o0, o1, o2, o3, o4, hr⟩ := x.row
 obtain ⟨hs, hh⟩ := x.had
 exact ⟨⟨o0, o1, o2, o3, o4, (hg.block q l1 (fun e => h1 e.symm)).trans hr⟩, x.vals.kept hg (.inr fun e => h2 e.symm), hs, hh.kept hg (.inr fun e => h3 e.symm)⟩
theorem WkAt.setb {w : World} {base q v h : Nat} {F : Fun} {A : FunA} {bb : Value} {L : List Int} {s : Int} (x : WkAt w base q v h F A bb L s) (b2 : Value) : WkAt (w.setCell ⟨q, 12, none⟩ b2) base q v h F A b2 L s := by
 obtain ⟨_, _, _, n1, n2, _⟩ := x.lt
 obtain ⟨o0, o1, o2, o3, o4, hr⟩ := x.row
 obtain ⟨hs, hh⟩ := x.had
 have h1 := heap_setCell_same _ q 12 _ _ b2 hr
 simp only [List.setIfInBounds_toArray, List.set_cons_succ, List.set_cons_zero] at h1
 have hk := (Save.set q 12 w b2).block
 refine ⟨⟨o0, o1, o2, o3, o4, h1⟩, owns_of_block x.vals fun g _ h2 h3 => hk g h2 ?_, hs, owns_of_block hh fun g _ h2 h3 => hk g h2 ?_⟩
 ·simp only [Value.ownBlock, Option.some.injEq] at h3
  omega
 ·simp only [Value.ownBlock, Option.some.injEq] at h3
  omega
theorem owns_ne {w : World} {B s n g : Nat} {e e' : TypeId} {v : Value} {xs : List Value} {cs : Array Value} (h : w.ownsRow B e s v n xs) (hg : w.heap[g]? = some (.cells cs e' (0, 0))) (hne : e ≠ e') : v.ownBlock ≠ some g := fun k => by
 obtain ⟨_, ⟨rfl, _⟩ | ⟨g', cap, cur, rfl, _, hg', _⟩⟩ := h
 ·cases k
 ·simp only [Value.ownBlock, Option.some.injEq] at k
  subst k
  rw [hg'] at hg
  simp only [Option.some.injEq, Obj.cells.injEq] at hg
  exact hne hg.2.1
theorem WkAt.apart {w : World} {base q v h : Nat} {F : Fun} {A : FunA} {bb : Value} {L : List Int} {s : Int} (x : WkAt w base q v h F A bb L s) {B n : Nat} {rv : Value} {xs : List Value} (ho : w.ownsRow B 3 1 rv n xs) : rv.ownBlock ≠ some q ∧ rv.ownBlock ≠ some v ∧ rv.ownBlock ≠ some h := by
 obtain ⟨o0, o1, o2, o3, o4, hr⟩ := x.row
 obtain ⟨hs, hh⟩ := x.had
 obtain ⟨_, _, cs, h2⟩ := owns_heap x.vals
 obtain ⟨_, _, cs', h4⟩ := owns_heap hh
 exact ⟨owns_ne ho hr (by decide), owns_ne ho h2 (by decide), owns_ne ho h4 (by decide)⟩
theorem WkAt.keepRow {w w' : World} {base q v h : Nat} {F : Fun} {A : FunA} {bb : Value} {L : List Int} {s : Int} (x : WkAt w base q v h F A bb L s) {B n : Nat} {rv : Value} {xs : List Value} (ho : w.ownsRow B 3 1 rv n xs) (hs : Sv3 q v h w w') : w'.ownsRow B 3 1 rv n xs := by
 obtain ⟨h1, h2, h3⟩ := x.apart ho
 exact owns_of_block ho fun g _ hg e => hs.block g hg (fun k => h1 (e.trans (by rw [k]))) (fun k => h2 (e.trans (by rw [k]))) (fun k => h3 (e.trans (by rw [k])))
structure RunAt (w : World) (base q v h : Nat) (F : Fun) (A : FunA) (B L : List Int) (s : Int) : Prop where
 ex : ∃ bb, WkAt w base q v h F A bb L s ∧ w.ownsRow base 3 1 bb B.length (encI B)
theorem RunAt.below {w w' : World} {base q v h : Nat} {F : Fun} {A : FunA} {B L : List Int} {s : Int} (x : RunAt w base q v h F A B L s) (hb : Below w.heap.size w w') : RunAt w' base q v h F A B L s := by
 obtain ⟨bb, h1, h2⟩ := x.ex
 exact ⟨bb, h1.below hb, owns_below h2 hb⟩
theorem RunAt.tick {w : World} {base q v h : Nat} {F : Fun} {A : FunA} {B L : List Int} {s : Int} (x : RunAt w base q v h F A B L s) : RunAt (w.setCell ⟨q, 13, none⟩ (.int .i64 (s + 1))) base q v h F A B L (s + 1) := by
 obtain ⟨bb, h1, h2⟩ := x.ex
 exact ⟨bb, h1.tick, h1.keepRow h2 (Sv3.of_save (Save.set q 13 w _) (.inl rfl))⟩
theorem RunAt.setv {w : World} {base q v h : Nat} {F : Fun} {A : FunA} {B L : List Int} {s : Int} (x : RunAt w base q v h F A B L s) (k : Nat) (hk : k < L.length) (y : Int) :
  RunAt ((((w.setCell ⟨v, k * 3, none⟩ (.bool false)).setCell ⟨v, k * 3 + 1, none⟩ (.int .i64 0)).setCell ⟨v, k * 3 + 2, none⟩ (.int .u32 y)).setCell ⟨h, k, none⟩ (.bool true)) base q v h F A B (L.set k y) s ∧
  Sv3 q v h w ((((w.setCell ⟨v, k * 3, none⟩ (.bool false)).setCell ⟨v, k * 3 + 1, none⟩ (.int .i64 0)).setCell ⟨v, k * 3 + 2, none⟩ (.int .u32 y)).setCell ⟨h, k, none⟩ (.bool true)) := by
 obtain ⟨bb, h1, h2⟩ := x.ex
 obtain ⟨h3, h4⟩ := h1.setv k hk y
 obtain ⟨h5, h6⟩ := h3.seth k (.bool true)
 exact ⟨⟨bb, h5, h1.keepRow h2 (h4.trans h6)⟩, h4.trans h6⟩
def LastR (L : List Int) (x : Ins) (nx : Int) : Prop :=
 (x.op = 29 ∧ 0 < x.tt.length ∧ nx = x.tt.getD 0 0) ∨
 (x.op = 30 ∧ x.tt.length = 2 ∧ ∃ c : Bool, argL L x.ar = [if c then 1 else 0] ∧ nx = if c then x.tt.getD 0 0 else x.tt.getD 1 0) ∨
 (x.op = 31 ∧ (∃ a, argL L x.ar = [a]) ∧ nx = -1)
theorem RunAt.ofRow {w w' : World} {base q v h : Nat} {F : Fun} {A : FunA} {B L : List Int} {s : Int} {bb : Value} {o0 : Int} {o1 : Bool} {o2 o3 : Int} {o4 : Option Addr × Nat × Nat} (x : WkAt w base q v h F A bb L s) (ho : w.ownsRow base 3 1 bb B.length (encI B)) (hr : WkRow w' q F A (.int .i64 o0) (.bool o1) (.int .i64 o2) (.int .u32 o3) (.slice o4.1 o4.2.1 o4.2.2) bb s v h L.length) (hs : Save q w w') : RunAt w' base q v h F A B L s := by
 obtain ⟨l1, l2, l3, n1, n2, n3⟩ := x.lt
 obtain ⟨hs', hh⟩ := x.had
 refine ⟨bb, ⟨⟨o0, o1, o2, o3, o4, hr⟩, owns_of_block x.vals fun g _ h2 h3 => hs.block g h2 ?_, hs', owns_of_block hh fun g _ h2 h3 => hs.block g h2 ?_⟩, x.keepRow ho (Sv3.of_save hs (.inl rfl))⟩
 ·simp only [Value.ownBlock, Option.some.injEq] at h3
  omega
 ·simp only [Value.ownBlock, Option.some.injEq] at h3
  omega
theorem wLast_any (F : Fun) (A : FunA) (base q v h : Nat) (B L : List Int) (s : Int) (x : Ins) (nx : Int) (aa ta : Option Addr) (ca ct : Nat) (la : Option Addr) (lc : Nat) (w : World) (hx : LastR L x nx) (ht : IntsIn w ta x.tt) (hv : ValsIn w la (argL L x.ar)) (hw : RunAt w base q v h F A B L s) :
  Calls Tryz.prog 88 #[.pointer (some ⟨q, 0, none⟩), insV x aa ta ca ct, .slice la x.ar.length lc] w fun e w' => e = .returned (.int .i64 nx) ∧ RunAt w' base q v h F A B L s ∧ Save q w w' := by
 rcases hx with ⟨ho, h1, rfl⟩ | ⟨ho, h1, c, h2, rfl⟩ | ⟨ho, ⟨a, h2⟩, rfl⟩
 ·exact (wLast_jump q x aa ta ca ct la x.ar.length lc w ho ht h1).mono fun e w' ⟨he, hb⟩ => ⟨he, hw.below hb, Save.of_below hb⟩
 ·have hl : x.ar.length = 1 := by have := argL_len L x.ar; rw [h2] at this; simpa using this.symm
  rw [h2] at hv
  rw [hl]
  exact (wLast_branch q x aa ta ca ct c la lc w ho ht h1 hv).mono fun e w' ⟨he, hb⟩ => ⟨he, hw.below hb, Save.of_below hb⟩
 ·have hl : x.ar.length = 1 := by have := argL_len L x.ar; rw [h2] at this; simpa using this.symm
  rw [h2] at hv
  rw [hl]
  obtain ⟨bb, h3, h4⟩ := hw.ex
  obtain ⟨o0, o1, o2, o3, o4, hr⟩ := h3.row
  exact (wLast_ret q F A (.int .i64 o0) (.bool o1) (.int .i64 o2) (.int .u32 o3) (.slice o4.1 o4.2.1 o4.2.2) bb s v h L.length x aa ta ca ct a la lc w ho hv hr).mono fun e w' ⟨he, hr', hs⟩ => ⟨he, RunAt.ofRow (o0 := 0) (o1 := false) (o2 := 0) (o3 := a) (o4 := (none, 0, 0)) h3 h4 hr' hs, hs⟩
end Go.Proofs.YtbbbflnnbbaamaaGreatDoor.PK
namespace Go.Proofs.YtbbbflnnbbaamaaGreatDoor.PK
open Go.RowKit

def vlO (L : List Int) (at0 np : Nat) (r : Nat → Int) : Nat → List Int
 | 0 => L
 | d + 1 => (vlO L at0 np r d).set (at0 + (np + d)) (r (np + d))
theorem vlO_len (L : List Int) (at0 np : Nat) (r : Nat → Int) : ∀ d, (vlO L at0 np r d).length = L.length
 | 0 => rfl
 | d + 1 => by show (List.set _ _ _).length = _; rw [List.length_set, vlO_len L at0 np r d]
structure BlkR (F : Fun) (L : List Int) (bk : Nat) (frm : Int) (np m : Nat) (rd r : Nat → Int) (nx : Int) : Prop where
 phi : PhiAt L (atBk F.bs bk) frm np rd
 len : (atBk F.bs bk).length = np + m + 1
 mid : ∀ d, d < m → isLst (insA F bk (np + d)).op = false ∧ 0 < (insA F bk (np + d)).wd ∧ InsR F (vlO (wrK L (F.ps.length + sumI F.bs bk) rd np) (F.ps.length + sumI F.bs bk) np r d) (insA F bk (np + d)) (r (np + d))
 args : ∀ d, d ≤ m → ∀ k, k < (insA F bk (np + d)).ar.length → 0 ≤ (insA F bk (np + d)).ar.getD k 0 ∧ (insA F bk (np + d)).ar.getD k 0 < L.length
 last : isLst (insA F bk (np + m)).op = true ∧ LastR (vlO (wrK L (F.ps.length + sumI F.bs bk) rd np) (F.ps.length + sumI F.bs bk) np r m) (insA F bk (np + m)) nx
set_option maxRecDepth 100000 in
set_option maxHeartbeats 4000000 in
theorem wBlock_any (F : Fun) (A : FunA) (base q v h : Nat) (B L : List Int) (s : Int) (bk np m : Nat) (frm : Int) (rd r : Nat → Int) (nx : Int) (W0 w : World) (hin : FunIn W0 F A) (hW : W0.heap.size ≤ base) (hW0 : Below W0.heap.size W0 w) (hs : FunSm F) (hN : L.length = (kdsI F).length) (hb : bk < F.bs.length)
  (hp : BlkR F L bk frm np m rd r nx) (hbq : base ≤ q) (hs0 : 0 ≤ s) (hs1 : s + np + m + 1 < 400) (hB : B.length ≤ 1000) (hw : RunAt w base q v h F A B L s) :
  Calls Tryz.prog 51 #[.pointer (some ⟨q, 0, none⟩), .int .i64 (bk : Nat), .int .i64 frm] w fun e w' => e = .returned (.int .i64 nx) ∧ RunAt w' base q v h F A (B ++ [((bk : Nat) : Int)]) (vlO (wrK L (F.ps.length + sumI F.bs bk) rd np) (F.ps.length + sumI F.bs bk) np r m) (s + np + m + 1) ∧ Below base w w' := by
 obtain ⟨bb, hw1, ho⟩ := hw.ex
 obtain ⟨l1, l2, l3, n1, n2, n3⟩ := hw1.lt
 obtain ⟨o0, o1, o2, o3, o4, hr⟩ := hw1.row
 have g12 := cell_of_row _ _ 12 _ _ _ hr
 have hbv : base ≤ v := (owns_heap hw1.vals).1
 have hbh : base ≤ h := by obtain ⟨_, hh⟩ := hw1.had; exact (owns_heap hh).1
 have hbz : base ≤ w.heap.size := by omega
 have HW1a := Lib.hid (hw1.below ((Below.refl w.heap.size w).alloc (Nat.le_refl _) (.cells #[.int .i64 (bk : Nat)] 3)))
 have HO1 := Lib.hid (ho.alloc (.cells #[.int .i64 (bk : Nat)] 3)); have HI1 := Lib.hid (int_new w (bk : Nat) 3)
 have HB1 := Lib.hid ((Below.refl base w).alloc hbz (.cells #[.int .i64 (bk : Nat)] 3))
 have HZ1 := Lib.hid (show base ≤ (w.alloc (.cells #[.int .i64 (bk : Nat)] 3)).heap.size by simp; omega)
 have HSz : Hid (B.length + [((bk : Nat) : Int)].length ≤ 1000000) := Lib.hid (by simp; omega)
 have HN := Lib.hid hN
 have HFn : Hid (∀ u, Below base w u → FunIn u F A) := Lib.hid fun u hu => hin.below (hW0.trans (hu.mono hW))
 have HSm := Lib.hid hs; have HP := Lib.hid hp
 have hm := hs.ins bk hb
 have hsp := hs.ps
 have hsu := hs.sum bk (Nat.le_of_lt hb)
 have hsb := hs.bs
 have hlen := hp.len
 have hmono := sumI_mono (ls := F.bs) hb
 have hN2 := hN
 rw [kdsI_len] at hN2
 have hat : F.ps.length + sumI F.bs bk + (np + m + 1) ≤ L.length := by omega
 have hbi : (bk : Int) < (F.bs.length : Int) := by omega
 have HPh := Lib.hid (fun bb' u (hu : Below base w u) (hw : WkAt u base q v h F A bb' L s) => wPhis_any F A base q v h bb' L s bk np frm rd u (hin.below (hW0.trans (hu.mono hW))) hs hN hb hp.phi hs0 (by omega) hw)
 have HNu := Lib.hid (fun u (hu : Below base w u) => Number_any F A bk u (hin.below (hW0.trans (hu.mono hW))) hs (Nat.le_of_lt hb))
 have HVl : Hid (∀ d, (vlO (wrK L (F.ps.length + sumI F.bs bk) rd np) (F.ps.length + sumI F.bs bk) np r d).length = L.length) := Lib.hid fun d => by rw [vlO_len, wrK_len]
 have HVn : Hid (∀ d, vlO (wrK L (F.ps.length + sumI F.bs bk) rd np) (F.ps.length + sumI F.bs bk) np r (d + 1) = (vlO (wrK L (F.ps.length + sumI F.bs bk) rd np) (F.ps.length + sumI F.bs bk) np r d).set (F.ps.length + sumI F.bs bk + (np + d)) (r (np + d))) := Lib.hid fun d => rfl
 have HV0 : Hid (vlO (wrK L (F.ps.length + sumI F.bs bk) rd np) (F.ps.length + sumI F.bs bk) np r 0 = wrK L (F.ps.length + sumI F.bs bk) rd np) := Lib.hid rfl
 obtain ⟨fb, fo, la, lc, hba, hlc, hli⟩ := hin.bs bk hb
 have HLc : Hid (∀ u, Below base w u → u.cell? ⟨fb, fo + bk, none⟩ = some (.slice la (np + m + 1) lc)) := Lib.hid fun u hu => by
  have := keep hlc (hW0.trans (hu.mono hW))
  rwa [hlen] at this
 have HIns : Hid (∀ i, i < np + m + 1 → ∃ ib io aa ta ca ct, la = some ⟨ib, io, none⟩ ∧ ∀ u, Below base w u → InsAt u ib (io + i * 6) (insA F bk i) aa ta ca ct) := Lib.hid fun i hi => by
  obtain ⟨ib, io, aa, ta, ca, ct, h1, h2⟩ := hli i (by omega)
  exact ⟨ib, io, aa, ta, ca, ct, h1, fun u hu => h2.below (hW0.trans (hu.mono hW))⟩
 have HMid := Lib.hid hp.mid; have HArg := Lib.hid hp.args; have HLast := Lib.hid hp.last
 have hat2 : F.ps.length + sumI F.bs bk < 1000000 := by omega
 have HArs : Hid (∀ i, i < np + m + 1 → (insA F bk i).ar.length ≤ 40) := Lib.hid fun i hi => (hs.ars bk i hb (by omega)).1
 obtain ⟨pa, pc, sa, sc, ba, bc⟩ := A
 obtain rfl : ba = some ⟨fb, fo, none⟩ := hba
 simp only [funV, funC] at HNu
 clear hw hw1 ho hr hin hW0 hs hp hmono hN hN2 l1 l2 l3 HP hlc hli
 generalize F.ps.length + sumI F.bs bk = atn at *
 generalize vlO (wrK L atn rd np) atn np r = vl at *
 generalize wrK L atn rd np = L0 at *
 go_enter Tryz.func51, Tryz.ntmps51
 go_upto_region 1 with fail
 go_wp2_with (at_builtin; refine wpList_append_ints _ rfl _ _ rfl base _ B rfl HO1.out (some ⟨w.heap.size, 0, none⟩) 1 [((bk : Nat) : Int)] rfl HI1.out HSz.out HZ1.out ?_; intro b2 w3 ho3 hg3; obtain ⟨ba2, bc2, hb2⟩ := owns_shape ho3; subst hb2; rw [show Value.slice ba2 (B ++ [((bk : Nat) : Int)]).length bc2 = .slice ba2 (B.length + 1) bc2 by simp] at ho3; have hap := HW1a.out.apart HO1.out; have hw3 := HW1a.out.grown hg3 hap.1 hap.2.1 hap.2.2; have HO3 := Lib.hid ho3; have HB3 := Lib.hid (HB1.out.grown hg3 HZ1.out (fun g hg => (owns_block HO1.out hg).1)); have HW3 := Lib.hid hw3; obtain ⟨p0, p1, p2, p3, p4, hr3⟩ := hw3.row; have c12 := cell_of_row _ _ 12 _ _ _ hr3; have fz3 := frozen_of_row _ q 12 _ _ hr3; clear ho3 hg3 hap hw3 hr3)
 have hz3 := HB3.out.size
 have HW4 := Lib.hid (HW3.out.setb (.slice ba2 (B.length + 1) bc2))
 have HO4 := Lib.hid (HW3.out.keepRow HO3.out (Sv3.of_save (Save.set q 12 w3 (.slice ba2 (B.length + 1) bc2)) (.inl rfl)))
 have HB4 := Lib.hid (HB3.out.trans ((Save.set q 12 w3 (.slice ba2 (B.length + 1) bc2)).below hbq (by omega)))
 clear c12 fz3 g12
 generalize hw4 : w3.setCell ⟨q, 12, none⟩ (.slice ba2 (B.length + 1) bc2) = w4 at *
 clear hw4
 refine (HPh.out _ w4 HB4.out HW4.out).mono ?_; rintro e w5 ⟨rfl, hw5, hs5⟩
 have hz4 := HB4.out.size
 have HO5 := Lib.hid (HW4.out.keepRow HO4.out hs5)
 have HB5 := Lib.hid (HB4.out.trans (hs5.below hbq hbv hbh (by omega)))
 have HW5 := Lib.hid hw5
 obtain ⟨p0, p1, p2, p3, p4, hr5⟩ := hw5.row
 have g0 := cell_of_row _ _ 0 _ _ _ hr5; have g1 := cell_of_row _ _ 1 _ _ _ hr5; have g2 := cell_of_row _ _ 2 _ _ _ hr5; have g3 := cell_of_row _ _ 3 _ _ _ hr5
 have hz5 := HB5.out.size
 clear hw5 hs5 hr5
 go_wp2_with fail
 refine (HNu.out w5 HB5.out).mono ?_; rintro e w6 ⟨rfl, hb6⟩
 have HR6 := Lib.hid (RunAt.below ⟨_, HW5.out, HO5.out⟩ hb6)
 have HB6 := Lib.hid (HB5.out.trans (hb6.mono (by omega)))
 clear hb6 g0 g1 g2 g3
 go_wp2_with fail
 go_loopw [10] (fun i wr => ∃ d : Nat, d ≤ m ∧ i = .int .i64 ((np + d : Nat) : Int) ∧ RunAt wr base q v h F ⟨pa, pc, sa, sc, some ⟨fb, fo, none⟩, bc⟩ (B ++ [((bk : Nat) : Int)]) (vl d) (s + np + d) ∧ Below base w wr) (fun i _ => np + m + 1 - (intOf i).toNat)
 case atStart => exact ⟨0, Nat.zero_le _, rfl, by rw [HV0.out]; simpa using HR6.out, HB6.out⟩
 case round =>
  obtain ⟨d, hd, rfl, hrun, hbr⟩ := hrel
  have HBr := Lib.hid hbr; have HRun := Lib.hid hrun
  obtain ⟨bb2, hw, _⟩ := hrun.ex
  obtain ⟨p0, p1, p2, p3, p4, hr⟩ := hw.row
  have hvl := HVl.out d
  have g3 := cell_of_row _ _ 3 _ _ _ hr
  have hlc := HLc.out wr hbr
  obtain ⟨ib, io, aa, ta, ca, ct, hla, hx⟩ := HIns.out (np + d) (by omega)
  subst hla
  have hmid : d < m → isLst (insA F bk (np + d)).op = false ∧ 0 < (insA F bk (np + d)).wd ∧ InsR F (vl d) (insA F bk (np + d)) (r (np + d)) := HMid.out d
  have hlst : d = m → isLst (insA F bk (np + d)).op = true ∧ LastR (vl d) (insA F bk (np + d)) nx := fun e => by rw [e]; exact HLast.out
  have harg := HArg.out d hd
  have hxl := HArs.out (np + d) (by omega)
  rw [← hvl] at harg
  have HX := Lib.hid hx; have HMd := Lib.hid hmid; have HLs := Lib.hid hlst; have HAr := Lib.hid harg
  obtain ⟨x0, x1, x2, x3, x4, x5, _, _⟩ := hx wr hbr
  clear hx hmid hlst harg hw hr hrun
  generalize insA F bk (np + d) = x at *
  have hal : Below wr.heap.size wr (wr.alloc (.cells #[.int .i64 x.op, .int .i64 x.wd, .int .i64 x.fl, .slice aa x.ar.length ca, .int .u32 x.im, .slice ta x.tt.length ct] 63)) := (Below.refl _ _).alloc (Nat.le_refl _) _
  have hr3 : (wr.alloc (.cells #[.int .i64 x.op, .int .i64 x.wd, .int .i64 x.fl, .slice aa x.ar.length ca, .int .u32 x.im, .slice ta x.tt.length ct] 63)).heap[wr.heap.size]? = some (.cells #[.int .i64 x.op, .int .i64 x.wd, .int .i64 x.fl, .slice aa x.ar.length ca, .int .u32 x.im, .slice ta x.tt.length ct] 63 (0, 0)) := heap_alloc_new _ _
  have hzr := hbr.size
  have HR2 := Lib.hid (HRun.out.below hal)
  have HB2 := Lib.hid (hbr.trans (hal.mono (by omega)))
  have HX2 := Lib.hid hr3
  have hki : ((np + d : Nat) : Int) < ((np + m + 1 : Nat) : Int) := by omega
  clear hr3 hal
  go_upto_region 10 with fail
  generalize (wr.alloc _) = w2 at *
  generalize wr.heap.size = px at *
  clear x0 x1 x2 x3 x4 x5 g3 hlc
  obtain ⟨bb2, hw, _⟩ := HR2.out.ex
  obtain ⟨p0, p1, p2, p3, p4, hr⟩ := hw.row
  have c13 := cell_of_row _ _ 13 _ _ _ hr
  have fz13 := frozen_of_row _ q 13 _ _ hr
  have HT := Lib.hid (wTick_any q (s + np + d) w2 (by omega) (by omega) c13 fz13)
  have hpq : px ≠ q := ne_block HX2.out hr (by decide)
  have hsq := Save.set q 13 w2 (.int .i64 (s + np + d + 1))
  have HR3 := Lib.hid HR2.out.tick
  have hz2 := HB2.out.size
  have HB3 := Lib.hid (HB2.out.trans (hsq.below hbq (by omega)))
  have HX3 : Hid ((w2.setCell ⟨q, 13, none⟩ (.int .i64 (s + np + d + 1))).heap[px]? = some (.cells #[.int .i64 x.op, .int .i64 x.wd, .int .i64 x.fl, .slice aa x.ar.length ca, .int .u32 x.im, .slice ta x.tt.length ct] 63 (0, 0))) := Lib.hid ((hsq.block px (lt_of_block HX2.out) hpq).trans HX2.out)
  clear hw hr c13 fz13 hsq
  go_wp2_with fail
  refine HT.out.mono ?_; rintro e w3' ⟨rfl, rfl⟩
  generalize hw3 : w2.setCell ⟨q, 13, none⟩ (.int .i64 (s + np + d + 1)) = w3 at *
  clear hw3 HT
  obtain ⟨bb3, hw, _⟩ := HR3.out.ex
  obtain ⟨p0, p1, p2, p3, p4, hr⟩ := hw.row
  obtain ⟨va, vc, he, hvi⟩ := vals_of_owns hw.vals
  simp only [Value.slice.injEq] at he
  obtain ⟨rfl, he1, he2⟩ := he
  clear he1 he2
  have HAg := Lib.hid (wArgs_any F ⟨pa, pc, sa, sc, some ⟨fb, fo, none⟩, bc⟩ q v (vl d) x aa ta ca ct w3 (HFn.out w3 HB3.out) HSm.out (hvl.trans HN.out) (HX.out w3 HB3.out).ia hxl HAr.out hvi (cell_of_row _ _ 0 _ _ _ hr) (cell_of_row _ _ 3 _ _ _ hr) (cell_of_row _ _ 14 _ _ _ hr))
  have f0 := cell_of_row _ _ 0 _ _ _ HX3.out; have f1 := cell_of_row _ _ 1 _ _ _ HX3.out; have f2 := cell_of_row _ _ 2 _ _ _ HX3.out; have f3 := cell_of_row _ _ 3 _ _ _ HX3.out; have f4 := cell_of_row _ _ 4 _ _ _ HX3.out; have f5 := cell_of_row _ _ 5 _ _ _ HX3.out
  have hz3' := HB3.out.size
  clear hw hr hvi
  simp only [insV] at HAg
  go_wp2_with fail
  refine HAg.out.mono ?_; rintro e w4' ⟨la', lc', ka, kc, rfl, hv4, hk4, hb4⟩
  have HV4 := Lib.hid hv4; have HK4 := Lib.hid hk4
  have HR4 := Lib.hid (HR3.out.below hb4); have HB4' := Lib.hid (HB3.out.trans (hb4.mono (by omega)))
  have HX4 := Lib.hid (row_below HX3.out hb4)
  clear f0 f1 f2 f3 f4 f5 hv4 hk4 hb4
  have f0 := cell_of_row _ _ 0 _ _ _ HX4.out; have f1 := cell_of_row _ _ 1 _ _ _ HX4.out; have f2 := cell_of_row _ _ 2 _ _ _ HX4.out; have f3 := cell_of_row _ _ 3 _ _ _ HX4.out; have f4 := cell_of_row _ _ 4 _ _ _ HX4.out; have f5 := cell_of_row _ _ 5 _ _ _ HX4.out
  have HIl := Lib.hid (rIsLast_any x.op)
  have hz4' := HB4'.out.size
  by_cases hdm : d = m
  ·obtain ⟨e1, e2⟩ := HLs.out hdm
   rw [e1] at HIl
   have HLa := Lib.hid (wLast_any F ⟨pa, pc, sa, sc, some ⟨fb, fo, none⟩, bc⟩ base q v h (B ++ [((bk : Nat) : Int)]) (vl d) (s + np + d + 1) x nx aa ta ca ct la' lc' w4' e2 (HX.out w4' HB4'.out).it HV4.out HR4.out)
   simp only [insV] at HLa
   clear e1 e2
   go_wp2_with fail
   refine (HIl.out _).mono ?_; rintro e w5' ⟨rfl, rfl⟩
   go_wp2_with fail
   refine HLa.out.mono ?_; rintro e w6' ⟨rfl, hr6, hs6⟩
   have HE := Lib.hid hr6; have HBe := Lib.hid (HB4'.out.trans (hs6.below hbq (by omega)))
   clear hr6 hs6 f0 f1 f2 f3 f4 f5
   go_wp2_with fail
   go_ret
   subst hdm
   exact ⟨rfl, HE.out, HBe.out⟩
  obtain ⟨e1, e2, e3⟩ := HMd.out (by omega)
  rw [e1] at HIl
  have HRe := Lib.hid (wResult_any F q (vl d) x (r (np + d)) aa ta ca ct la' ka lc' kc w4' e3 HV4.out HK4.out)
  simp only [insV, valV] at HRe
  have HVs := Lib.hid (HVn.out d)
  clear e1 e3
  go_wp2_with fail
  refine (HIl.out _).mono ?_; rintro e w5' ⟨rfl, rfl⟩
  go_wp2_with fail
  refine HRe.out.mono ?_; rintro e w6' ⟨rfl, hb6⟩
  have HR6' := Lib.hid (HR4.out.below hb6); have HB6' := Lib.hid (HB4'.out.trans (hb6.mono (by omega))); have HX6 := Lib.hid (row_below HX4.out hb6)
  clear f0 f1 f2 f3 f4 f5 hb6
  generalize r (np + d) = y at *
  have hal7 : Below w6'.heap.size w6' (w6'.alloc (.cells #[.bool false, .int .i64 0, .int .u32 y] 47)) := (Below.refl _ _).alloc (Nat.le_refl _) _
  have hr7 : (w6'.alloc (.cells #[.bool false, .int .i64 0, .int .u32 y] 47)).heap[w6'.heap.size]? = some (.cells #[.bool false, .int .i64 0, .int .u32 y] 47 (0, 0)) := heap_alloc_new _ _
  have hz6 := HB6'.out.size
  have HR7 := Lib.hid (HR6'.out.below hal7); have HB7 := Lib.hid (HB6'.out.trans (hal7.mono (by omega))); have HX7 := Lib.hid (row_below HX6.out hal7)
  have y0 := cell_of_row _ _ 0 _ _ _ hr7; have y1 := cell_of_row _ _ 1 _ _ _ hr7; have y2 := cell_of_row _ _ 2 _ _ _ hr7
  clear hal7 hr7
  have f1 := cell_of_row _ _ 1 _ _ _ HX7.out
  go_upto_region 16 with fail
  generalize (w6'.alloc _) = w7 at *
  generalize w6'.heap.size = pv at *
  obtain ⟨bb7, hw, _⟩ := HR7.out.ex
  obtain ⟨p0, p1, p2, p3, p4, hr⟩ := hw.row
  rw [hvl] at hr
  have c14 := cell_of_row _ _ 14 _ _ _ hr; have c15 := cell_of_row _ _ 15 _ _ _ hr
  have haj : atn + (np + d) < L.length := by omega
  have haji : (atn : Int) + ((np : Int) + (d : Int)) < (L.length : Int) := by omega
  have haj0 : (0 : Int) ≤ (atn : Int) + ((np : Int) + (d : Int)) := by omega
  have hix : ((atn : Int) + ((np : Int) + (d : Int))).toNat = atn + (np + d) := by omega
  have hwr : IntKind.i64.wrap ((atn : Int) + ((np : Int) + (d : Int))) = (atn : Int) + ((np : Int) + (d : Int)) := by simp [IntKind.wrap, IntKind.bits, IntKind.signed]; omega
  obtain ⟨g2, cp2, e4, _, _, z0, z1, z2, fz2⟩ := owns_row3 hw.vals (k := atn + (np + d)) (by rw [hvl]; exact haj)
  simp only [Value.slice.injEq, Option.some.injEq, Addr.mk.injEq, and_true, true_and] at e4
  obtain ⟨rfl, rfl⟩ := e4
  obtain ⟨hs', hh'⟩ := hw.had
  rw [hvl] at hh'
  have hhl := hh'.1
  obtain ⟨g3, cp3, e5, _, _, _, _, hc3, fz3⟩ := owns_cells hh' (by omega)
  simp only [Value.slice.injEq, Option.some.injEq, Addr.mk.injEq, and_true, true_and] at e5
  obtain ⟨rfl, rfl⟩ := e5
  have zh := hc3 (atn + (np + d)) _ (List.getElem?_eq_getElem (by omega : atn + (np + d) < hs'.length))
  have k0 := fz2 ((atn + (np + d)) * 3); have k1 := fz2 ((atn + (np + d)) * 3 + 1); have k2 := fz2 ((atn + (np + d)) * 3 + 2); have k3 := fz3 (atn + (np + d))
  have HFin := Lib.hid (HR7.out.setv (atn + (np + d)) (by rw [hvl]; exact haj) y)
  rw [← HVs.out] at HFin
  have hz7 := HB7.out.size
  generalize hs'[atn + (np + d)] = zo at *
  generalize (vl d).getD (atn + (np + d)) 0 = yo at *
  clear hr hw hh' hc3 fz2 fz3 hhl
  go_upto_region 20 with fail
  go_still_tail 10, (by kernel_rfl)
  change wpList _ _ _ _ _ w7.drew
  go_wp2_with fail
  go_roundw
  case rel => exact ⟨d + 1, by omega, by go_num, by have := HFin.out.1.below (below_drew1 (Below.refl _ _)); rwa [show s + (np : Int) + (d : Int) + 1 = s + (np : Int) + ((d + 1 : Nat) : Int) by omega] at this, below_drew1 (HB7.out.trans (HFin.out.2.below hbq hbv hbh (by omega)))⟩
  case measure => simp [intOf]; omega
end Go.Proofs.YtbbbflnnbbaamaaGreatDoor.PK
