/- slices.SortFunc at an own row of pairs; the walk of Clash of the program. -/
import Derived.Test.YtjfpaelmcepidaaA3
import Derived.Test.YtjfpaelmcepidaaKH
import Derived.Test.YtjfpaelmcepidaaSF
import Derived.StillTailTactics
namespace Go.Proofs.Ytjfpaelmcepidaa.PK
open Go.RowKit Go.Maps

set_option maxRecDepth 100000 in
set_option maxHeartbeats 1000000 in
theorem clashes_any (regs : Int) (ls : List (List Cd)) (L : List (List Int)) (bl : Option Addr) (cap : Nat) (w : World) (hv : progErrW regs ls = 0) (hlm : ∀ k, k < ls.length → (atB ls k).length ≤ 9223372036854775807) (hL : LiveOf ls regs.toNat L) (hin : BlkIn w bl ls) :
    Calls Try.prog 31 #[.agg #[.int .i64 regs, .slice bl ls.length cap]] w fun e w' => (∃ mo, e = .returned (.map (some mo)) ∧ w.heap.size ≤ mo ∧ SetP w' mo (Clashes ls (tabI L))) ∧ Below w.heap.size w w' := by
  have HI := Lib.hid hin
  have HLives := Lib.hid (fun Bp Bo mo u => lives_any regs ls L bl cap Bp Bo mo u hv hlm hL)
  have HMk := Lib.hid (@run_makeMap Try.prog)
  clear hin hv hlm hL
  generalize Clashes ls (tabI L) = CC at *
  have hmm := HMk.out
  go_enter Try.func31, Try.ntmps31
  go_upto_region 2 with (fail)
  clear hmm
  have hF : SetP (((w.alloc (.cells #[.int .i64 regs, .slice bl ls.length cap] 24)).alloc (.map #[] 0)).alloc (.cells #[.map (some (w.heap.size + 1))] 77)) (w.heap.size + 1) fun _ => False := by
    have h := (SetP.made (w.alloc (.cells #[.int .i64 regs, .slice bl ls.length cap] 24))).kept (World.grownBy_alloc _ (.cells #[.map (some (w.heap.size + 1))] 77) none) (by simp)
    simpa using h
  have hb : Below w.heap.size w (((w.alloc (.cells #[.int .i64 regs, .slice bl ls.length cap] 24)).alloc (.map #[] 0)).alloc (.cells #[.map (some (w.heap.size + 1))] 77)) :=
    (((Below.refl _ _).alloc (Nat.le_refl _) _).alloc (by simp) _).alloc (by simp; omega) _
  have h0 : (((w.alloc (.cells #[.int .i64 regs, .slice bl ls.length cap] 24)).alloc (.map #[] 0)).alloc (.cells #[.map (some (w.heap.size + 1))] 77)).cell? ⟨w.heap.size, 0, none⟩ = some (.int .i64 regs) := by simp [go_sem]
  have h1 : (((w.alloc (.cells #[.int .i64 regs, .slice bl ls.length cap] 24)).alloc (.map #[] 0)).alloc (.cells #[.map (some (w.heap.size + 1))] 77)).cell? ⟨w.heap.size, 1, none⟩ = some (.slice bl ls.length cap) := by simp [go_sem]
  have h2 : (((w.alloc (.cells #[.int .i64 regs, .slice bl ls.length cap] 24)).alloc (.map #[] 0)).alloc (.cells #[.map (some (w.heap.size + 1))] 77)).cell? ⟨w.heap.size + 1 + 1, 0, none⟩ = some (.map (some (w.heap.size + 1))) := by simp [go_sem]
  have HF := Lib.hid hF; have HB := Lib.hid hb
  generalize (((w.alloc (.cells #[.int .i64 regs, .slice bl ls.length cap] 24)).alloc (.map #[] 0)).alloc (.cells #[.map (some (w.heap.size + 1))] 77)) = w3 at *
  clear hF hb
  have HL2 := Lib.hid (HLives.out w.heap.size (w.heap.size + 1 + 1) (w.heap.size + 1) w3 (HI.out.below HB.out) h1 h2 HF.out)
  go_wp2_with fail
  refine HL2.out.mono ?_; rintro e w4 ⟨rfl, hc4, hs4⟩
  have HC4 := Lib.hid hc4
  have HB4 : Hid (Below w.heap.size w w4) := Lib.hid (HB.out.trans (hs4.below (by omega) HB.out.size))
  have k2 := hs4.cell (by omega) h2
  clear hc4 hs4 h0 h1 h2
  go_wp2_with fail
  go_ret
  exact ⟨⟨_, rfl, by omega, HC4.out⟩, HB4.out⟩
end Go.Proofs.Ytjfpaelmcepidaa.PK
namespace Go.Proofs.Ytjfpaelmcepidaa.PK
open Go.RowKit Go.Sort Go.Shelf

def lexC : List Int → List Int → Int
  | [], [] => 0
  | [], _ :: _ => -1
  | _ :: _, [] => 1
  | x :: a, y :: b => if x < y then -1 else if y < x then 1 else lexC a b
theorem isNaN_any (x : Int) (w : World) : Calls Try.prog 105 #[.int .i64 x] w fun e w' => e = .returned (.bool false) ∧ w' = w := by
  have hx : (x != x) = false := by simp
  go_enter Try.func105, Try.ntmps105
  go_wp2_with fail
  go_ret
  exact ⟨rfl, rfl⟩
theorem cmpI_any (x y : Int) (w : World) : Calls Try.prog 75 #[.int .i64 x, .int .i64 y] w fun e w' => e = .returned (.int .i64 (if x < y then -1 else if y < x then 1 else 0)) ∧ w' = w := by
  have HN := Lib.hid isNaN_any
  by_cases h1 : x < y
  · rw [if_pos h1]
    go_enter Try.func75, Try.ntmps75
    go_wp2_with fail
    refine (HN.out _ _).mono ?_; rintro e v ⟨rfl, rfl⟩
    go_wp2_with fail
    refine (HN.out _ _).mono ?_; rintro e v ⟨rfl, rfl⟩
    go_wp2_with fail
    go_ret
    exact ⟨rfl, rfl⟩
  · rw [if_neg h1]
    by_cases h2 : y < x
    · rw [if_pos h2]
      go_enter Try.func75, Try.ntmps75
      go_wp2_with fail
      refine (HN.out _ _).mono ?_; rintro e v ⟨rfl, rfl⟩
      go_wp2_with fail
      refine (HN.out _ _).mono ?_; rintro e v ⟨rfl, rfl⟩
      go_wp2_with fail
      go_ret
      exact ⟨rfl, rfl⟩
    · rw [if_neg h2]
      go_enter Try.func75, Try.ntmps75
      go_wp2_with fail
      refine (HN.out _ _).mono ?_; rintro e v ⟨rfl, rfl⟩
      go_wp2_with fail
      refine (HN.out _ _).mono ?_; rintro e v ⟨rfl, rfl⟩
      go_wp2_with fail
      go_ret
      exact ⟨rfl, rfl⟩
theorem lex_eq {x y : List Int} : ∀ k, k ≤ x.length → k ≤ y.length → (∀ j, j < k → x.getD j 0 = y.getD j 0) → lexC x y = lexC (x.drop k) (y.drop k)
  | 0, _, _, _ => by rw [List.drop_zero, List.drop_zero]
  | k + 1, h1, h2, h => by
    rw [lex_eq k (by omega) (by omega) fun j hj => h j (by omega)]
    have e := h k (by omega)
    rw [List.drop_eq_getElem_cons (show k < x.length by omega), List.drop_eq_getElem_cons (show k < y.length by omega)]
    rw [List.getD_eq_getElem?_getD, List.getElem?_eq_getElem (show k < x.length by omega), List.getD_eq_getElem?_getD, List.getElem?_eq_getElem (show k < y.length by omega)] at e
    simp only [Option.getD_some] at e
    conv => lhs; unfold lexC
    rw [if_neg (by omega), if_neg (by omega)]
theorem drop_cons {x : List Int} {k : Nat} (h : k < x.length) : x.drop k = x.getD k 0 :: x.drop (k + 1) := by
  rw [List.drop_eq_getElem_cons h, List.getD_eq_getElem?_getD, List.getElem?_eq_getElem h]; rfl
set_option maxHeartbeats 1000000 in
theorem cmpL_any (x y : List Int) (a b : Option Addr) (ca cb : Nat) (w : World) (ha : IntsIn w a x) (hb : IntsIn w b y) (hl : x.length ≤ 1000000) :
    Calls Try.prog 34 #[.slice a x.length ca, .slice b y.length cb] w fun e w' => e = .returned (.int .i64 (lexC x y)) ∧ w' = w := by
  have HA := Lib.hid ha; have HB := Lib.hid hb
  have HC := Lib.hid cmpI_any
  have HX := Lib.hid (@lex_eq x y)
  clear ha hb
  go_enter Try.func34, Try.ntmps34
  go_wp2_with fail
  go_loopw [11] (fun i wr => ∃ k : Nat, k ≤ x.length ∧ k ≤ y.length ∧ i = .int .i64 k ∧ w = wr ∧ Hid (∀ j, j < k → x.getD j 0 = y.getD j 0)) (fun i _ => x.length - (intOf i).toNat)
  case atStart => exact ⟨0, Nat.zero_le _, Nat.zero_le _, rfl, rfl, Lib.hid fun j hj => absurd hj (Nat.not_lt_zero _)⟩
  case round =>
    obtain ⟨k, hk, hk2, rfl, rfl, HE⟩ := hrel
    have HL := Lib.hid (HX.out k hk hk2 HE.out)
    by_cases hlt : k < x.length
    · obtain ⟨b1, o1, rfl, h1⟩ := HA.out k hlt
      have HD1 := Lib.hid (drop_cons hlt)
      have hki : (k : Int) < (x.length : Int) := by omega
      by_cases hlt2 : k < y.length
      · obtain ⟨b2, o2, rfl, h2⟩ := HB.out k hlt2
        have HD2 := Lib.hid (drop_cons hlt2)
        have hki2 : ¬ (y.length : Int) ≤ (k : Int) := by omega
        have hkd2 : decide ((y.length : Int) ≤ (k : Int)) = false := decide_eq_false hki2
        have HE1 : Hid (x.getD k 0 = y.getD k 0 → ∀ j, j < k + 1 → x.getD j 0 = y.getD j 0) := Lib.hid fun h j hj => by
          by_cases e : j = k
          · rw [e]; exact h
          · exact HE.out j (by omega)
        generalize x.getD k 0 = p at *
        generalize y.getD k 0 = q at *
        have HCC := Lib.hid (HC.out p q)
        by_cases c1 : p < q
        · rw [if_pos c1] at HCC
          have HR : Hid (lexC x y = -1) := Lib.hid (by rw [HL.out, HD1.out, HD2.out]; unfold lexC; rw [if_pos c1])
          clear c1
          go_wp2_with fail
          refine (HCC.out _).mono ?_; rintro e v ⟨rfl, rfl⟩
          go_wp2_with fail
          go_ret
          exact ⟨ret_int HR.out.symm, rfl⟩
        · rw [if_neg c1] at HCC
          by_cases c2 : q < p
          · rw [if_pos c2] at HCC
            have HR : Hid (lexC x y = 1) := Lib.hid (by rw [HL.out, HD1.out, HD2.out]; unfold lexC; rw [if_neg c1, if_pos c2])
            clear c1 c2
            go_wp2_with fail
            refine (HCC.out _).mono ?_; rintro e v ⟨rfl, rfl⟩
            go_wp2_with fail
            go_ret
            exact ⟨ret_int HR.out.symm, rfl⟩
          · rw [if_neg c2] at HCC
            have HPQ := Lib.hid (show p = q by omega)
            clear c1 c2
            go_wp2_with fail
            refine (HCC.out _).mono ?_; rintro e v ⟨rfl, rfl⟩
            go_wp2_with fail
            go_roundw
            case rel => exact ⟨k + 1, by omega, by omega, by go_num, by trivial, Lib.hid (HE1.out HPQ.out)⟩
            case measure => simp [intOf]; omega
      · have hki2 : (y.length : Int) ≤ (k : Int) := by omega
        have hkd2 : decide ((y.length : Int) ≤ (k : Int)) = true := decide_eq_true hki2
        have HR : Hid (lexC x y = 1) := Lib.hid (by rw [HL.out, HD1.out, List.drop_eq_nil_of_le (show y.length ≤ k by omega)]; rfl)
        go_wp2_with fail
        go_ret
        exact ⟨ret_int HR.out.symm, rfl⟩
    · have hki : ¬ (k : Int) < (x.length : Int) := by omega
      have hkx : x.length = k := by omega
      by_cases hxy : k < y.length
      · have h3 : (x.length : Int) < (y.length : Int) := by omega
        have HR : Hid (lexC x y = -1) := Lib.hid (by rw [HL.out, drop_cons hxy, List.drop_eq_nil_of_le (show x.length ≤ k by omega)]; rfl)
        go_wp2_with fail
        go_ret
        exact ⟨ret_int HR.out.symm, rfl⟩
      · have h3 : ¬ (x.length : Int) < (y.length : Int) := by omega
        have HR : Hid (lexC x y = 0) := Lib.hid (by rw [HL.out, List.drop_eq_nil_of_le (show y.length ≤ k by omega), List.drop_eq_nil_of_le (show x.length ≤ k by omega)]; rfl)
        go_wp2_with fail
        go_ret
        exact ⟨ret_int HR.out.symm, rfl⟩

/-! ### Pairs -/
def cmpH (p q : Int × Int) : Int := lexC [p.1, p.2] [q.1, q.2]
def ltH (p q : Int × Int) : Bool := decide (cmpH p q < 0)
theorem cmpH_lt (p q : Int × Int) : cmpH p q < 0 ↔ (p.1 < q.1 ∨ (p.1 = q.1 ∧ p.2 < q.2)) := by
  unfold cmpH lexC
  split
  · omega
  · split
    · omega
    · unfold lexC
      split
      · omega
      · split
        · omega
        · unfold lexC; omega
theorem ltH_iff {p q : Int × Int} : ltH p q = true ↔ (p.1 < q.1 ∨ (p.1 = q.1 ∧ p.2 < q.2)) := by
  unfold ltH
  rw [decide_eq_true_iff, cmpH_lt]
theorem ltH_no {p q : Int × Int} : ltH p q = false ↔ ¬ (p.1 < q.1 ∨ (p.1 = q.1 ∧ p.2 < q.2)) := by
  rw [← ltH_iff]; simp
theorem ltH_total {p q : Int × Int} (h1 : ltH p q = false) (h2 : ltH q p = false) : p = q := by
  rw [ltH_no] at h1 h2
  exact Prod.ext (by omega) (by omega)
theorem swoH : SWO (ltOf cmpH) where
  irrefl x := ltH_no.2 (by omega)
  trans x y z h1 h2 := ltH_iff.2 (by have := ltH_iff.1 h1; have := ltH_iff.1 h2; omega)
  ntrans x y z h1 h2 := ltH_no.2 (by have := ltH_no.1 h1; have := ltH_no.1 h2; omega)
def encHp (p : Int × Int) : List Value := [.int .i64 p.1, .int .i64 p.2]
/-- The pairs in ascending order. -/
def sortH (l : StrL) : StrL := l.mergeSort fun x y => !(ltOf cmpH) y x
theorem sortH_len (l : StrL) : (sortH l).length = l.length := List.length_mergeSort _
theorem getH (l : StrL) (q : Nat) : l.toArray[q]! = atH l q := by
  unfold atH
  rw [List.getD_eq_getElem?_getD]
  by_cases h : q < l.length
  · simp [h]
  · simp [h]; rfl
theorem flatH_get (l : StrL) (i : Nat) (h : i < l.length * 2) : (encH l)[i]? = some ((flatK encHp 2 l.toArray)[i]!) := by
  rw [get_flatK encHp 2 l.toArray i (by simpa using h), getH]
  obtain ⟨e0, e1⟩ := encH_get l (i / 2) (by omega)
  have hr : i % 2 = 0 ∨ i % 2 = 1 := by omega
  rcases hr with h | h
  · rw [h, show i = i / 2 * 2 by omega, e0, show i / 2 * 2 / 2 = i / 2 by omega]; rfl
  · rw [h, show i = i / 2 * 2 + 1 by omega, e1, show (i / 2 * 2 + 1) / 2 = i / 2 by omega]; rfl
theorem alloc_eq_grow (w : World) (o : Obj) : w.alloc o = grow w #[o] := by unfold World.alloc grow; rw [Array.push_eq_append]
theorem grow2 (w : World) (a b : Obj) : ((w.alloc a).alloc b) = grow w #[a, b] := by
  rw [alloc_eq_grow _ b, alloc_eq_grow _ a]
  rw [grow_grow]; rfl
set_option maxRecDepth 100000 in
set_option maxHeartbeats 1000000 in
theorem pcmp_any (p q : Int × Int) (w : World) : Calls Try.prog 33 #[.agg #[.int .i64 p.1, .int .i64 p.2], .agg #[.int .i64 q.1, .int .i64 q.2]] w fun e w' => e = .returned (.int .i64 (cmpH p q)) ∧ ∃ m os, w' = grow (w.drewN m) os := by
  unfold cmpH
  have h1 : IntsIn (((w.alloc (.cells #[.int .i64 p.1, .int .i64 p.2] 79)).alloc (.cells #[.int .i64 q.1, .int .i64 q.2] 79)).drew) (some ⟨w.heap.size, 0, none⟩) [p.1, p.2] := fun k hk => ⟨_, _, rfl, by
    match k, hk with
    | 0, _ => simp [go_sem]
    | 1, _ => simp [go_sem]⟩
  have h2 : IntsIn (((w.alloc (.cells #[.int .i64 p.1, .int .i64 p.2] 79)).alloc (.cells #[.int .i64 q.1, .int .i64 q.2] 79)).drew) (some ⟨w.heap.size + 1, 0, none⟩) [q.1, q.2] := fun k hk => ⟨_, _, rfl, by
    match k, hk with
    | 0, _ => simp [go_sem]
    | 1, _ => simp [go_sem]⟩
  have HC := Lib.hid (cmpL_any [p.1, p.2] [q.1, q.2] _ _ 2 2 _ h1 h2 (by simp))
  have HG := Lib.hid (grow2 w (.cells #[.int .i64 p.1, .int .i64 p.2] 79) (.cells #[.int .i64 q.1, .int .i64 q.2] 79))
  clear h1 h2
  go_enter Try.func33, Try.ntmps33
  go_wp2_with fail
  generalize ((w.alloc (.cells #[.int .i64 p.1, .int .i64 p.2] 79)).alloc (.cells #[.int .i64 q.1, .int .i64 q.2] 79)) = w0 at *
  refine wp_region_still_tail 3 (by kernel_rfl) (by kernel_rfl) ?_
  simp only [List.take_succ_cons, List.take_zero, List.drop_succ_cons, List.drop_zero]
  repeat (first | still_step | still_call HC.out)
  refine wpStill_nil ?_
  change wpList _ _ _ _ _ w0.drew
  go_wp2_with fail
  go_ret
  refine ⟨rfl, 1, #[.cells #[.int .i64 p.1, .int .i64 p.2] 79, .cells #[.int .i64 q.1, .int .i64 q.2] 79], ?_⟩
  show _ = grow w.drew #[.cells #[.int .i64 p.1, .int .i64 p.2] 79, .cells #[.int .i64 q.1, .int .i64 q.2] 79]
  have := congrArg World.drew HG.out
  exact this
theorem pcmp_enter : ∀ args w, (callFunc 33 args).run Try.prog w = .ok (.enter 33 args) w := enters_of Try.func33 (by kernel_rfl) rfl
theorem pcmp_lays (blk off size : Nat) (w : World) : CmpLays Try.prog 33 #[] encHp 2 cmpH blk off size w := fun m os dk _ x y => by
  show Calls Try.prog 33 #[.agg #[.int .i64 x.1, .int .i64 x.2], .agg #[.int .i64 y.1, .int .i64 y.2]] _ _
  exact pcmp_any x y _
theorem heap_sortedH {w : World} {g n : Nat} {os : Array Obj} {cur : Array Value} {e : TypeId} (d : Array (Int × Int)) (hb : w.heap[g]? = some (.cells cur e (0, 0))) :
    (sortWorldK encHp 2 w g 0 n d os).heap[g]? = some (.cells (putCells id 0 (flatK encHp 2 d) cur) e (0, 0)) := by
  have hlt : g < w.heap.size := lt_of_block hb
  unfold sortWorldK putRowK putRow mapBlock grow
  simp only [heap_ahead]
  rw [Array.getElem?_append_left (by simpa using hlt), Array.getElem?_modify, if_pos rfl, hb]
  rfl
theorem sort_frameH {w : World} {g n : Nat} {os : Array Obj} (d : Array (Int × Int)) : w.grownBy (sortWorldK encHp 2 w g 0 n d os) (some g) := by
  refine ⟨rfl, rfl, rfl, ?_, fun k hk hne => ?_⟩
  · unfold sortWorldK putRowK putRow mapBlock grow; simp
  · unfold sortWorldK putRowK putRow mapBlock grow
    simp only [heap_ahead]
    rw [Array.getElem?_append_left (by simpa using hk), Array.getElem?_modify, if_neg (fun e => hne (by rw [e]))]
theorem take_putH (cur : Array Value) (l : StrL) (h : l.length * 2 ≤ cur.size) : (putCells id 0 (flatK encHp 2 l.toArray) cur).toList.take (l.length * 2) = encH l := by
  apply List.ext_getElem?
  intro i
  by_cases hi : i < l.length * 2
  · rw [List.getElem?_take, if_pos hi, flatH_get l i hi]
    have hc : i < cur.size := by omega
    simp only [putCells, Array.getElem?_toList, Array.getElem?_mapIdx, Array.getElem?_eq_getElem hc, Option.map_some, size_flatK]
    rw [if_pos ⟨Nat.zero_le _, by simpa using hi⟩]
    rfl
  · rw [List.getElem?_take, if_neg hi, List.getElem?_eq_none (by rw [encH_len]; omega)]
theorem sortH_any (l : StrL) (v : Value) (B : Nat) (w : World) (ho : w.ownsRow B 79 2 v l.length (encH l)) (hl : l.length ≤ 1000000) :
    Calls Try.prog 32 #[v, .func (.func 33) #[] #[]] w fun e w' => e = .returned (.tuple #[]) ∧ w'.ownsRow B 79 2 v l.length (encH (sortH l)) ∧ w.grownBy w' v.ownBlock := by
  obtain ⟨hlen, ⟨rfl, h0⟩ | ⟨g, cap, cur, rfl, hb, hg, hnc, hm, hcs, ht⟩⟩ := ho
  · have : l = [] := List.length_eq_zero_iff.1 h0
    subst this
    refine (Try.slices_SortFunc_none (α := Int × Int) none 0 _ w).mono ?_
    rintro e w' ⟨rfl, rfl⟩
    exact ⟨rfl, ⟨by rw [encH_len, sortH_len], .inl ⟨rfl, rfl⟩⟩, ⟨rfl, rfl, rfl, Nat.le_refl _, fun _ _ _ => rfl⟩⟩
  · have hH : HoldsK encHp 2 w g 0 l.toArray := by
      intro j hj
      have hj2 : j < l.length * 2 := by simpa using hj
      refine ⟨?_, frozen_of_row w g _ _ _ hg⟩
      rw [Nat.zero_add, cell_of_row w g j _ _ _ hg]
      have := flatH_get l j hj2
      rw [← ht, List.getElem?_take, if_pos hj2] at this
      simpa using this
    have hs := Try.slices_SortFunc_total (α := Int × Int) 2 Try.isAgg79 Try.sizeOf79 encHp (fun _ => rfl) (fun x v hv => by simp only [encHp, List.mem_cons, List.not_mem_nil, or_false] at hv; rcases hv with rfl | rfl <;> rfl) cmpH swoH 33 #[] g 0 cap l.toArray w pcmp_enter (pcmp_lays g 0 _ w) hH (lt_of_block hg) (by simp; omega) (fun x y h1 h2 => ltH_total h1 h2)
    have e1 : l.toArray.size = l.length := by simp
    rw [e1] at hs
    refine hs.mono ?_
    rintro e w' ⟨rfl, n, os, rfl⟩
    refine ⟨rfl, ⟨by rw [encH_len, sortH_len], .inr ⟨g, cap, _, rfl, hb, heap_sortedH _ hg, hnc, hm, by simpa [putCells] using hcs, ?_⟩⟩, sort_frameH _⟩
    have := take_putH cur (sortH l) (by rw [sortH_len, hcs]; exact Nat.mul_le_mul_right _ hnc)
    rw [sortH_len] at this
    exact this
end Go.Proofs.Ytjfpaelmcepidaa.PK
namespace Go.Proofs.Ytjfpaelmcepidaa.PK
open Go.RowKit Go.Maps Go.Sort

/-- The list of the registers that clash. -/
structure IsClash (ls : List (List Cd)) (L : List (List Int)) (l : StrL) : Prop where
  sorted : l.Pairwise fun p q => ltH p q = true
  mem : ∀ p, p ∈ l ↔ Clashes ls (tabI L) p
theorem sorted_same : ∀ {l m : StrL}, (l.Pairwise fun p q => ltH p q = true) → (m.Pairwise fun p q => ltH p q = true) → (∀ p, p ∈ l ↔ p ∈ m) → l = m
  | [], [], _, _, _ => rfl
  | [], q :: m, _, _, h => absurd ((h q).2 (by simp)) (by simp)
  | p :: l, [], _, _, h => absurd ((h p).1 (by simp)) (by simp)
  | p :: l, q :: m, h1, h2, h => by
    rw [List.pairwise_cons] at h1 h2
    have e : p = q := by
      have hp := (h p).1 (by simp)
      have hq := (h q).2 (by simp)
      rcases List.mem_cons.1 hp with e | hp
      · exact e
      · rcases List.mem_cons.1 hq with e | hq
        · exact e.symm
        · exact absurd (ltH_iff.1 (h1.1 q hq)) (ltH_no.1 (by
            have := ltH_iff.1 (h2.1 p hp)
            rw [ltH_no]; omega))
    subst e
    have irr : ∀ {n : StrL}, (∀ q ∈ n, ltH p q = true) → p ∉ n := fun hn hm => by
      have := ltH_iff.1 (hn p hm); omega
    rw [sorted_same h1.2 h2.2 fun r => ?_]
    have := h r
    rw [List.mem_cons, List.mem_cons] at this
    constructor
    · intro hr
      rcases this.1 (.inr hr) with e | h3
      · subst e; exact absurd hr (irr h1.1)
      · exact h3
    · intro hr
      rcases this.2 (.inr hr) with e | h3
      · subst e; exact absurd hr (irr h2.1)
      · exact h3
theorem IsClash.unique {ls : List (List Cd)} {L : List (List Int)} {l m : StrL} (h : IsClash ls L l) (h' : IsClash ls L m) : l = m := sorted_same h.sorted h'.sorted fun p => (h.mem p).trans (h'.mem p).symm
theorem sortH_clash {ls : List (List Cd)} {L : List (List Int)} {zs : StrL} (hn : zs.Nodup) (hm : ∀ p, p ∈ zs ↔ Clashes ls (tabI L) p) : IsClash ls L (sortH zs) := by
  have hp : (sortH zs).Perm zs := List.mergeSort_perm _ _
  refine ⟨?_, fun p => hp.mem_iff.trans (hm p)⟩
  have h1 : (sortH zs).Pairwise fun x y => (!(ltOf cmpH) y x) = true := List.pairwise_mergeSort (fun a b c h1 h2 => by
      have h1 : ltH b a = false := (by simpa using h1 : ltOf cmpH b a = false)
      have h2 : ltH c b = false := (by simpa using h2 : ltOf cmpH c b = false)
      have : ltH c a = false := ltH_no.2 (by have := ltH_no.1 h1; have := ltH_no.1 h2; omega)
      show (!ltH c a) = true
      rw [this]; rfl) (fun a b => by
      show (!ltH b a || !ltH a b) = true
      cases h1 : ltH b a
      · rfl
      · have : ltH a b = false := ltH_no.2 (by have := ltH_iff.1 h1; omega)
        rw [this]; rfl) zs
  have h2 : (sortH zs).Nodup := hp.nodup_iff.2 hn
  refine (h1.and h2).imp fun {p q} h => ?_
  have h3 : ltH q p = false := (by simpa using h.1 : ltOf cmpH q p = false)
  cases h4 : ltH p q
  · exact absurd (ltH_total h4 h3) h.2
  · rfl
/-- How the list of the registers that clash comes back. -/
def ClPost (regs : Int) (ls : List (List Cd)) (L : List (List Int)) (w : World) (e : Ending) (w' : World) : Prop :=
  (if progErrW regs ls = 0 then ∃ a c l, e = .returned (.tuple #[.slice a l.length c, .int .i64 0]) ∧ IsClash ls L l ∧ l.length ≤ 1000000 ∧ StrIn w' a l else e = .returned (.tuple #[.slice none 0 0, .int .i64 (progErrW regs ls)])) ∧ Below w.heap.size w w'
theorem RangeAt.few {α β : Type} {P : Program} {k e : TypeId} {key : α → Lit} {vl : β → Lit} {V : α → Prop} {w : World} {b r cnt : Nat} {f : α → Option β} {left : Lit → Bool} {zs : List α} (h : RangeAt P k e key vl V w b r f left cnt) (hc : CollS key f left zs) {N : List α} (hN : ∀ a, V a → a ∈ N) : zs.length ≤ N.length := by
  obtain ⟨D, l, _, hM⟩ := h
  exact hc.few fun a ha => hN a (hM.ok a ((hM.mem a).2 ha))
theorem allP_million : allP.length = 1000000 := by
  have h : ∀ l : List Int, (l.flatMap fun x => allI.map fun y => (x, y)).length = l.length * 1000 := fun l => by
    induction l with
    | nil => rfl
    | cons x l ih =>
      rw [List.flatMap_cons, List.length_append, ih, List.length_map, List.length_cons, allI_thousand]
      omega
  unfold allP
  rw [h, allI_thousand]
def ClRel (mo r B : Nat) (f : Int × Int → Option Unit) (w : World) (v : Value) (wr : World) : Prop :=
  ∃ (left : Lit → Bool) (cnt : Nat) (zs : StrL), RangeAt Try.prog 79 4 keyP litT PV wr mo r f left cnt ∧ CollS keyP f left zs ∧ wr.ownsRow B 79 2 v zs.length (encH zs) ∧ Below w.heap.size w wr ∧ B ≤ wr.heap.size
set_option maxRecDepth 100000 in
set_option maxHeartbeats 2000000 in
theorem sClash_any (regs : Int) (ls : List (List Cd)) (L : List (List Int)) (bl : Option Addr) (cap : Nat) (w : World) (hl : ls.length ≤ 9223372036854775807) (hlm : ∀ k, k < ls.length → (atB ls k).length ≤ 9223372036854775807) (hL : LiveOf ls regs.toNat L) (hin : BlkIn w bl ls) :
    Calls Try.prog 13 #[.agg #[.int .i64 regs, .slice bl ls.length cap]] w (ClPost regs ls L w) := by
  have HV := Lib.hid (fun u (h : BlkIn u bl ls) => ValidateW_any regs ls bl cap u h hl hlm)
  have HC := Lib.hid (fun u (h : BlkIn u bl ls) hv => clashes_any regs ls L bl cap u hv hlm hL h)
  have HI := Lib.hid hin
  have h0 : (w.alloc (.cells #[.int .i64 regs, .slice bl ls.length cap] 24)).cell? ⟨w.heap.size, 0, none⟩ = some (.int .i64 regs) := by simp [go_sem]
  have h1 : (w.alloc (.cells #[.int .i64 regs, .slice bl ls.length cap] 24)).cell? ⟨w.heap.size, 1, none⟩ = some (.slice bl ls.length cap) := by simp [go_sem]
  have HB0 : Hid (Below w.heap.size w (w.alloc (.cells #[.int .i64 regs, .slice bl ls.length cap] 24))) := Lib.hid ((Below.refl _ _).alloc (Nat.le_refl _) _)
  clear hin hl hlm hL
  by_cases hv : progErrW regs ls = 0
  rotate_left
  · have HP : Hid (∀ w', Below w.heap.size w w' → ClPost regs ls L w (.returned (.tuple #[.slice none 0 0, .int .i64 (progErrW regs ls)])) w') := Lib.hid fun w' h => ⟨by rw [if_neg hv], h⟩
    have hne : (progErrW regs ls != 0) = true := bne_iff_ne.2 hv
    generalize progErrW regs ls = pe at *
    clear hv HC
    go_enter Try.func13, Try.ntmps13
    go_upto_region 1 with (fail)
    generalize w.alloc (.cells #[.int .i64 regs, .slice bl ls.length cap] 24) = w0 at *
    go_wp2_with fail
    refine (HV.out _ (HI.out.below HB0.out)).mono ?_; rintro e w1 ⟨rfl, hb1⟩
    have HF := Lib.hid (HP.out _ (HB0.out.trans (hb1.mono HB0.out.size)))
    clear hb1 h0 h1
    go_wp2_with fail
    go_ret2
    exact HF.out
  have HP : Hid (∀ w' a c l, IsClash ls L l → l.length ≤ 1000000 → StrIn w' a l → Below w.heap.size w w' → ClPost regs ls L w (.returned (.tuple #[.slice a l.length c, .int .i64 0])) w') := Lib.hid fun w' a c l h1 h2 h3 h4 => ⟨by rw [if_pos hv]; exact ⟨a, c, l, rfl, h1, h2, h3⟩, h4⟩
  have HC := Lib.hid (fun u h => HC.out u h hv)
  rw [hv] at HV
  have HSo := Lib.hid (fun (zs : StrL) h => @sortH_clash ls L zs h)
  obtain ⟨i0, hi, hz0, hz1, hz2⟩ := info_parts Try.infoPair
  generalize ClPost regs ls L w = PP at *
  generalize Clashes ls (tabI L) = CC at *
  clear hv
  go_enter Try.func13, Try.ntmps13
  go_upto_region 1 with (fail)
  generalize w.alloc (.cells #[.int .i64 regs, .slice bl ls.length cap] 24) = w0 at *
  go_wp2_with fail
  refine (HV.out _ (HI.out.below HB0.out)).mono ?_; rintro e w1 ⟨rfl, hb1⟩
  have HB1 := Lib.hid (HB0.out.trans (hb1.mono HB0.out.size))
  have k0 := keep h0 hb1; have k1 := keep h1 hb1
  clear hb1 h0 h1
  go_wp2_with fail
  refine (HC.out _ (HI.out.below HB1.out)).mono ?_; rintro e w2 ⟨⟨mo, rfl, hmo, hset⟩, hb2⟩
  obtain ⟨f, hf, hfs⟩ := hset
  have HB2 := Lib.hid (HB1.out.trans (hb2.mono HB1.out.size)); have HF := Lib.hid hf; have HFs := Lib.hid hfs
  clear hf hfs hb2 k0 k1
  go_wp2_with (first | (at_range; refine wpList_range_map w2 rfl _ 77 rfl Try.underlying77 pairKind mo f HF.out rfl ?_; intro w3 left0 cnt0 hr0 hc0 hg0 hs0))
  go_frame
  have HR0 := Lib.hid hr0; have HC0 := Lib.hid hc0
  have HB3 : Hid (Below w.heap.size w w3) := Lib.hid (HB2.out.grown hg0 HB2.out.size (fun k hk => (by cases hk)))
  have hz3 : w2.heap.size < w3.heap.size := by omega
  have hmo2 := HF.out.lt
  have HQ : Hid (w.heap.size ≤ w2.heap.size) := Lib.hid HB2.out.size
  clear hr0 hc0 hg0 hs0
  generalize hr : w2.heap.size = r at *
  clear hr
  generalize hB : w3.heap.size = B at *
  have HBe := Lib.hid hB; clear hB
  go_loopw [5] (fun v wr => ClRel mo r B f w v wr) (fun _ wr => wr.rangeLeft mo r)
  case atStart => exact ⟨_, _, [], HR0.out, HC0.out, owns_nil _ _ _ _, HB3.out, by rw [HBe.out]; exact Nat.le_refl _⟩
  case round =>
    obtain ⟨left, cnt, zs, hr, hc, ho, hb, hz⟩ := hrel
    have HR := Lib.hid hr; have HCl := Lib.hid hc; have HO := Lib.hid ho; have HB := Lib.hid hb
    have hzl : zs.length ≤ 1000000 := by
      have := hr.few hc allP_mem
      rw [allP_million] at this
      exact this
    have hne3 := hr.ne
    clear hr hc ho hb
    go_wp2_with (first | (at_next; refine wpList_next_map wr rfl _ rfl pairKind boolKind mo r cnt f left rfl HR.out ?_ ?_))
    · intro hl
      have HFin : Hid (∀ p, p ∈ zs ↔ CC p) := Lib.hid fun p => (HCl.out.fin hl p).trans (HFs.out p)
      have HIs := Lib.hid (HSo.out zs HCl.out.nd HFin.out)
      clear hl
      have HS := Lib.hid (sortH_any zs _ B wr HO.out hzl)
      have hgb : ∀ g, Value.ownBlock u5 = some g → w.heap.size ≤ g := fun g hg => by have := (owns_block HO.out hg).1; have := HQ.out; omega
      have HGb := Lib.hid hgb
      clear hgb
      go_wp2_with fail
      refine HS.out.mono ?_; rintro e w5 ⟨rfl, ho5, hg5⟩
      have HB5 := Lib.hid (HB.out.grown hg5 HB.out.size HGb.out)
      have HO5 := Lib.hid ho5
      clear ho5 hg5
      go_wp2_with fail
      have ho := HO5.out
      rw [← sortH_len zs] at ho
      obtain ⟨a, c, rfl, hs⟩ := strIn_of_owns ho
      exact HP.out _ _ _ _ HIs.out (by rw [sortH_len]; exact hzl) hs HB5.out
    · intro a b u w4 cnt4 hvz hfz hlz hr4 hlt4 hg4 hs4 hen
      have HC4 := Lib.hid (HR.out.coll pairKind HCl.out hfz hlz)
      have HM := Lib.hid hlt4
      have HSz := Lib.hid hs4
      clear hs4
      obtain ⟨a0, c0, rfl⟩ := owns_shape HO.out
      have ho4 : w4.ownsRow B 79 2 (.slice a0 zs.length c0) zs.length (encH zs) := HO.out.kept hg4 (by
        cases h : (Value.slice a0 zs.length c0).ownBlock with
        | none => exact .inl rfl
        | some g => exact .inr (fun e => by have := (owns_block HO.out h).1; simp only [Option.some.injEq] at e; omega))
      have HO4 := Lib.hid ho4; have HR4 := Lib.hid hr4
      have HB4 : Hid (Below w.heap.size w w4) := Lib.hid (HB.out.grown hg4 HB.out.size (fun k hk => by simp only [Option.some.injEq] at hk; have := HQ.out; omega))
      have hz4 : B ≤ w4.heap.size := by have := HSz.out; omega
      clear ho4 hvz hfz hlz hr4 hg4 hlt4
      have hvp : valP (a, b) = .agg #[.int .i64 a, .int .i64 b] := rfl
      simp only [hvp] at hen ⊢
      clear hvp
      have HN : Hid (∀ j u, [Value.int .i64 a, .int .i64 b][j]? = some u → ((w4.alloc (.cells #[.int .i64 a, .int .i64 b] 79)).alloc (.cells #[.int .i64 a, .int .i64 b] 79)).cell? ((⟨w4.heap.size + 1, 0, none⟩ : Addr).add j) = some u) := Lib.hid (by simpa using cell_two_at (w4.alloc (.cells #[.int .i64 a, .int .i64 b] 79)) (.int .i64 a) (.int .i64 b) 79)
      go_wp2_with (at_builtin; refine wpList_append_own _ rfl _ _ 40 rfl B 79 i0 (.agg #[.int .i64 0, .int .i64 0]) 2 16 Try.underlying40 hi hz0 hz1 hz2 rfl (by decide) _ _ _ rfl ((HO4.out.alloc _).alloc _) ⟨w4.heap.size + 1, 0, none⟩ 1 1 [.int .i64 a, .int .i64 b] rfl rfl HN.out (one_two a b) (by unfold maxLen; omega) (by omega) (by simp; omega) ?_; intro v' w5 hown5 hgrow _)
      have HO5 : Hid (w5.ownsRow B 79 2 v' (zs ++ [(a, b)]).length (encH (zs ++ [(a, b)]))) := Lib.hid (by rw [encH_snoc]; simpa using hown5)
      have hne5 : ∀ g, (Value.slice a0 zs.length c0).ownBlock = some g → B ≤ g := fun g hg => (owns_block HO4.out hg).1
      have HR5 := Lib.hid (((HR4.out.alloc (.cells #[.int .i64 a, .int .i64 b] 79)).alloc (.cells #[.int .i64 a, .int .i64 b] 79)).kept hgrow (fun e => by have := hne5 _ e.symm; omega) (fun e => by have := hne5 _ e.symm; omega))
      have HB5 : Hid (Below w.heap.size w w5) := Lib.hid (((HB4.out.alloc HB4.out.size _).alloc (by have := HB4.out.size; simp; omega) _).grown hgrow (by have := HB4.out.size; simp; omega) (fun k hk => by have := hne5 k hk; have := HQ.out; omega))
      have HZ5 : Hid (B ≤ w5.heap.size) := Lib.hid (by have := hgrow.size; simp at this; omega)
      clear hown5 hgrow hne5
      go_roundw
      case rel => exact ⟨_, cnt4, _, HR5.out, HC4.out, HO5.out, HB5.out, HZ5.out⟩
      case measure => rw [HR5.out.left_eq, HR.out.left_eq]; exact HM.out
end Go.Proofs.Ytjfpaelmcepidaa.PK
