/- SameInts at whatever lists; Clean of the document. -/
import Derived.Test.YtahaoddilejpnaaCW
namespace Go.Proofs.Ytahaoddilejpnaa
open Go.RowKit

set_option maxHeartbeats 1000000 in
theorem sameG_any (x y : List Int) (a b : Option Addr) (ca cb : Nat) (w : World) (ha : IntsIn w a x) (hb : IntsIn w b y) (hl : x.length ≤ 1000000) :
    Calls Try.prog 27 #[.slice a x.length ca, .slice b y.length cb] w fun e w' => e = .returned (.bool (decide (x = y))) ∧ Below w.heap.size w w' := by
  have HA := Lib.hid ha; have HB := Lib.hid hb
  clear ha hb
  by_cases hxy : x.length = y.length
  rotate_left
  · have HR : Hid (decide (x = y) = false) := Lib.hid (decide_eq_false fun e => hxy (by rw [e]))
    have h2 : ((x.length : Int) != (y.length : Int)) = true := by simp; omega
    generalize decide (x = y) = r at *
    have hxn : ¬ (x.length : Int) = (y.length : Int) := by omega
    go_enter Try.func27, Try.ntmps27
    go_wp2_with fail
    go_ret
    exact ⟨ret_bool HR.out.symm, Below.refl _ _⟩
  have HNe := Lib.hid (fun k => @ne_at x y k)
  have HEq := Lib.hid (eq_all hxy)
  have HXY := Lib.hid hxy
  have HB : Hid (IntsIn w b y) := HB
  generalize decide (x = y) = r at *
  have hye : Value.slice b y.length cb = Value.slice b x.length cb := by rw [hxy]
  rw [hye]
  clear hye hxy
  have h2 : ((x.length : Int) != (x.length : Int)) = false := by simp
  go_enter Try.func27, Try.ntmps27
  go_wp2_with fail
  go_loopw [5] (fun i wr => ∃ k : Nat, k ≤ x.length ∧ i = .int .i64 k ∧ Below w.heap.size w wr ∧ Hid (∀ j, j < k → x.getD j 0 = y.getD j 0)) (fun i _ => x.length - (intOf i).toNat)
  case atStart => exact ⟨0, Nat.zero_le _, rfl, Below.refl _ _, Lib.hid fun j hj => absurd hj (Nat.not_lt_zero _)⟩
  case round =>
    obtain ⟨k, hk, rfl, hbl, HE⟩ := hrel
    have HBl := Lib.hid hbl
    by_cases hlt : k < x.length
    · obtain ⟨b1, o1, rfl, h1⟩ := HA.out.below hbl k hlt
      obtain ⟨b2, o2, rfl, h2⟩ := HB.out.below hbl k (by have := HXY.out; omega)
      have hki : (k : Int) < (x.length : Int) := by omega
      clear hbl
      have HE1 : Hid (x.getD k 0 = y.getD k 0 → ∀ j, j < k + 1 → x.getD j 0 = y.getD j 0) := Lib.hid fun h j hj => by
        by_cases e : j = k
        · rw [e]; exact h
        · exact HE.out j (by omega)
      have HN := Lib.hid (HNe.out k)
      generalize x.getD k 0 = p at *
      generalize y.getD k 0 = q at *
      by_cases c1 : p = q
      · have hne : (p != q) = false := by simp [c1]
        have HPQ := Lib.hid c1; clear c1
        go_wp2_with fail
        go_quiet (fail)
        go_wp2_with fail
        go_roundw
        case rel => exact ⟨k + 1, by omega, by go_num, below_drewN HBl.out _, Lib.hid (HE1.out HPQ.out)⟩
        case measure => simp [intOf]; omega
      · have hne : (p != q) = true := by simp [c1]
        have HR := Lib.hid (HN.out c1)
        go_wp2_with fail
        go_quiet (fail)
        go_wp2_with fail
        go_ret
        exact ⟨ret_bool HR.out.symm, below_drewN HBl.out _⟩
    · have hki : ¬ (k : Int) < (x.length : Int) := by omega
      have HR := Lib.hid (HEq.out fun j hj => HE.out j (by omega))
      clear hbl
      go_wp2_with fail
      go_ret
      exact ⟨ret_bool HR.out.symm, HBl.out⟩
theorem hole_at {α : Type} (O : List α) (j : Nat) (y : α) (hj : j ≤ O.length) (k : Nat) : (holeL O j y)[k]? = if k < j then O[k]? else if k = j then some y else O[k - 1]? := by
  unfold holeL
  have hl : (O.take j).length = j := by rw [List.length_take]; omega
  by_cases h : k < j
  · rw [if_pos h, List.getElem?_append_left (by omega), List.getElem?_take, if_pos h]
  · rw [if_neg h, List.getElem?_append_right (by omega), hl]
    by_cases h2 : k = j
    · subst h2; rw [if_pos rfl, Nat.sub_self]; rfl
    · rw [if_neg h2, show k - j = (k - 1 - j) + 1 by omega, List.getElem?_cons_succ, List.getElem?_drop, show j + (k - 1 - j) = k - 1 by omega]
/-- A row put between others. -/
theorem RowsAre.hole {w : World} {base : Nat} {row : Option Nat} {O : List (List Int)} {V : List Value} {X : List Int} {vx : Value} {j : Nat} (h : RowsAre w base row O V) (hx : RowsAre w base row [X] [vx]) (hj : j ≤ O.length) (hl : V.length = O.length) :
    RowsAre w base row (holeL O j X) (holeL V j vx) := fun k hk => by
  rw [hole_len] at hk
  have eg : (holeL O j X).getD k [] = if k < j then O.getD k [] else if k = j then X else O.getD (k - 1) [] := by
    rw [List.getD_eq_getElem?_getD, hole_at O j X hj k]
    split
    · rw [List.getD_eq_getElem?_getD]
    · split
      · rfl
      · rw [List.getD_eq_getElem?_getD]
  rw [eg, hole_at V j vx (by omega) k]
  by_cases h1 : k < j
  · rw [if_pos h1, if_pos h1]
    exact h k (by omega)
  · rw [if_neg h1, if_neg h1]
    by_cases h2 : k = j
    · rw [if_pos h2, if_pos h2]
      obtain ⟨a, cap, e, r⟩ := hx 0 (by simp)
      exact ⟨a, cap, by simpa using e, r⟩
    · rw [if_neg h2, if_neg h2]
      exact h (k - 1) (by omega)
theorem RowsAre.head {w : World} {base : Nat} {row : Option Nat} {O : List (List Int)} {x : List Int} {vals : List Value} (h : RowsAre w base row (O ++ [x]) vals) : RowsAre w base row O (vals.take O.length) := fun k hk => by
  obtain ⟨a, cap, h1, r⟩ := h k (by rw [List.length_append]; omega)
  have e : (O ++ [x]).getD k [] = O.getD k [] := by rw [List.getD_eq_getElem?_getD, List.getD_eq_getElem?_getD, List.getElem?_append_left hk]
  rw [e] at h1 r
  exact ⟨a, cap, by rw [List.getElem?_take, if_pos hk]; exact h1, r⟩
theorem split_last {α : Type} {l : List α} {n : Nat} (h : l.length = n + 1) : ∃ y, l = holeL (l.take n) n y := by
  refine ⟨l[n], ?_⟩
  have h1 : (l.take n).length = n := by rw [List.length_take]; omega
  have h2 := hole_start (l.take n) l[n]
  rw [h1] at h2
  rw [← h2, ← List.take_succ_eq_append_getElem (by omega), List.take_of_length_le (by omega)]
theorem owns_none {w : World} {base : Nat} {e : TypeId} {s n c : Nat} {xs : List Value} (h : w.ownsRow base e s (.slice none n c) n xs) : c = 0 := by
  obtain ⟨_, ⟨e2, _⟩ | ⟨g, cp, cur, e2, _⟩⟩ := h
  · exact (Value.slice.inj e2).2.2
  · cases e2
/-- A nil row more, as what the row holds and where. -/
theorem grown_nil {w5 w9 : World} {base : Nat} {v v9 : Value} {O : List (List Int)} {vals : List Value} {o : Obj} (hov : w5.ownsRow base 40 1 v O.length vals) (hra : RowsAre w5 base v.ownBlock O vals)
    (h9 : w9.ownsRow base 40 1 v9 (O.length + 1) (vals ++ [.slice none 0 0])) (hg : (w5.alloc o).grownBy w9 v.ownBlock) (hat : v9.ownBlock = v.ownBlock ∨ v9.ownBlock = some (w5.alloc o).heap.size) :
    ∃ g9 c9 V y9, v9 = .slice (some ⟨g9, 0, none⟩) (O.length + 1) c9 ∧ Cur w9 base g9 c9 (O.length + 1) O V (holeL V O.length y9) ∧ V.length = O.length := by
  have hb6 : Below w5.heap.size w5 (w5.alloc o) := (Below.refl w5.heap.size w5).alloc (Nat.le_refl _) o
  obtain ⟨vals9, ho9, ha9⟩ := RowsOwn.snoc (xs := []) (a := none) (cap := 0) (by have := hov.1; omega) (hra.below hb6) h9 hg hat (fun _ hk => absurd hk (Nat.not_lt_zero _)) (Nat.le_refl _) (fun _ => rfl) (fun b off e => by cases e)
  obtain ⟨g9, c9, rfl, _⟩ := owns_cells h9 (by omega)
  rw [List.length_append, List.length_singleton] at ho9
  have hl9 : vals9.length = O.length + 1 := by have := ho9.1; omega
  obtain ⟨y9, hy9⟩ := split_last hl9
  refine ⟨g9, c9, vals9.take O.length, y9, rfl, ⟨by rw [← hy9]; exact ho9, ha9.head⟩, by rw [List.length_take]; omega⟩
/-- A row that lies apart stays where an own row grows. -/
theorem one_grown {w5 w9 : World} {base B0 g9 c9 n : Nat} {v : Value} {X : List Int} {xa : Option Addr} {xc : Nat} {o : Obj} (hx : IntsIn w5 xa X) (hc : X.length ≤ xc) (hn : xa = none → xc = 0) (hb : ∀ b off, xa = some ⟨b, off, none⟩ → B0 ≤ b ∧ b < w5.heap.size) (hB : base ≤ B0)
    (hv : ∀ g, v.ownBlock = some g → g < B0) (hg : (w5.alloc o).grownBy w9 v.ownBlock) (hat : (Value.slice (some ⟨g9, 0, none⟩) n c9).ownBlock = v.ownBlock ∨ (Value.slice (some ⟨g9, 0, none⟩) n c9).ownBlock = some (w5.alloc o).heap.size) :
    RowsAre w9 base (some g9) [X] [.slice xa X.length xc] := fun k hk => by
  obtain rfl : k = 0 := by simpa using hk
  have hb6 : Below w5.heap.size w5 (w5.alloc o) := (Below.refl w5.heap.size w5).alloc (Nat.le_refl _) o
  refine ⟨xa, xc, rfl, hc, hn, fun i hi => ?_, fun b off e => ?_⟩
  · obtain ⟨b, off, rfl, hcell⟩ := hx.below hb6 i hi
    exact ⟨b, off, rfl, cell_kept hcell hg fun e => by
      have h1 := hv b e.symm
      have h2 := hb b off rfl
      omega⟩
  · obtain ⟨h1, h2⟩ := hb b off e
    have h3 : w5.heap.size ≤ (w5.alloc o).heap.size := hb6.size
    refine ⟨by omega, Nat.lt_of_lt_of_le h2 (Nat.le_trans h3 hg.size), fun e2 => ?_⟩
    rcases hat with h4 | h4
    · have := hv g9 h4.symm
      cases e2; omega
    · have h5 : g9 = (w5.alloc o).heap.size := Option.some.inj h4
      cases e2
      rw [h5] at h2; omega
theorem getD_row {O : List (List Int)} {i : Nat} (h : i < O.length) : O.getD i [] = O[i] := by rw [List.getD_eq_getElem?_getD, List.getElem?_eq_getElem h]; rfl
/-- Where a row belongs. -/
theorem at_row {O : List (List Int)} {X : List Int} {j : Nat} (h1 : ∀ i, i < O.length → i < j → ltL (O.getD i []) X) (h2 : j ≤ O.length) (h3 : j < O.length → ¬ ltL (O.getD j []) X) : atG ltL X O = j :=
  at_of (fun i h hij => by rw [← getD_row h]; exact h1 i h hij) h2 fun h => by rw [← getD_row h]; exact h3 h
theorem ins_row_there {O : List (List Int)} {X : List Int} {j : Nat} (h : atG ltL X O = j) (hj : j < O.length) (e : O.getD j [] = X) : insR X O = O :=
  ins_there (by rw [h, List.getElem?_eq_getElem hj, ← getD_row hj, e])
theorem ins_row_hole {O : List (List Int)} {X : List Int} {j : Nat} (h : atG ltL X O = j) (e : j < O.length → O.getD j [] ≠ X) : insR X O = holeL O j X := by
  have := ins_hole (lt := ltL) (x := X) (O := O) (by
    rw [h]
    rcases Nat.lt_or_ge j O.length with hj | hj
    · rw [List.getElem?_eq_getElem hj, ← getD_row hj]
      exact fun e2 => e hj (Option.some.inj e2)
    · rw [List.getElem?_eq_none hj]
      exact fun e2 => by cases e2)
  rw [h] at this
  exact this
theorem clean_take_len (g : List (List Int)) : ∀ k, k ≤ g.length → (cleanL (g.take k)).length ≤ k
  | 0, _ => by simp [cleanL]
  | k + 1, h => by
    have ih := clean_take_len g k (by omega)
    rw [clean_succ g k (by omega)]
    split
    · omega
    · unfold insR insG
      split
      · omega
      · have := hole_len (cleanL (g.take k)) (atG ltL (plainL (g.getD k [])) (cleanL (g.take k))) (plainL (g.getD k []))
        unfold holeL at this
        omega
theorem clean_short {g : List (List Int)} (hs : Short g) (k : Nat) (j : Nat) : ((cleanL (g.take k)).getD j []).length ≤ 1000 := by
  rcases Nat.lt_or_ge j (cleanL (g.take k)).length with h | h
  · obtain ⟨x, hx, _, e⟩ := ((clean_facts (g.take k)).2 _).1 (getD_mem (cleanL (g.take k)) [] j h)
    rw [← e]
    refine Nat.le_trans (plain_len x) ?_
    obtain ⟨i, hi, rfl⟩ := List.mem_iff_getElem.1 (List.mem_of_mem_take hx)
    have := hs.row i hi
    rwa [List.getD_eq_getElem?_getD, List.getElem?_eq_getElem hi] at this
  · rw [List.getD_eq_getElem?_getD, List.getElem?_eq_none h]; exact Nat.zero_le _
set_option maxRecDepth 100000 in
set_option maxHeartbeats 8000000 in
theorem rClean_any (n : Int) (g : List (List Int)) (a : Option Addr) (cap : Nat) (w : World) (hin : RowsIn w a g) (hs : Short g) :
    Calls Try.prog 29 #[.int .i64 n, .slice a g.length cap] w fun e w' => (∃ v, e = .returned (.tuple #[v, .int .i64 (validE n g)]) ∧ RowsOwn w' w.heap.size v (cleanR n g)) ∧ Below w.heap.size w w' := by
  have HV := Lib.hid (rValidate_any n g a cap w hin hs)
  have HI := Lib.hid hin; have HR := Lib.hid hs.row; have hl := hs.len
  have hE2 : cleanR n g = if validE n g = 0 then cleanL g else [] := rfl
  rw [hE2]
  by_cases he : validE n g = 0
  rotate_left
  · have he' : (validE n g != 0) = true := by simpa using he
    rw [if_neg he]
    clear HI HR hE2 hin hs
    generalize validE n g = e at *
    generalize g.length = p at *
    go_enter Try.func29, Try.ntmps29
    go_wp2_with fail
    refine HV.out.mono ?_; rintro e w2 ⟨rfl, rfl⟩
    go_wp2_with fail
    go_ret2
    exact ⟨⟨_, rfl, RowsOwn.nil _ _⟩, Below.refl _ _⟩
  have hok := validE_ok he
  rw [if_pos he]
  rw [he] at HV ⊢
  have hal := allLits_of hok.2.2
  have HBd : Hid (∀ k, k < g.length → ∀ x ∈ g.getD k [], -4000 ≤ x ∧ x ≤ 4000) := Lib.hid fun k hk x hx => by
    have := lit_bds (hal _ (getD_mem g [] k hk) x hx)
    omega
  have HS := Lib.hid (clean_succ g)
  have HLen := Lib.hid (clean_take_len g)
  have HSh := Lib.hid (clean_short hs)
  have HRes : Hid (cleanL (g.take g.length) = cleanL g) := Lib.hid (by rw [List.take_length])
  clear hok hal hE2 hin hs he
  obtain ⟨j0, hj0, jp0, jp1, jp2⟩ := info_parts Try.infoRow
  go_enter Try.func29, Try.ntmps29
  go_wp2_with fail
  refine HV.out.mono ?_; rintro e w2 ⟨rfl, rfl⟩
  go_wp2_with fail
  go_loopw [7, 8] (fun v i wr => ∃ k : Nat, k ≤ g.length ∧ i = .int .i64 k ∧ RowsOwn wr w.heap.size v (cleanL (g.take k)) ∧ Below w.heap.size w wr) (fun _ i _ => g.length - (intOf i).toNat)
  case atStart => exact ⟨0, Nat.zero_le _, rfl, RowsOwn.nil _ _, Below.refl _ _⟩
  case round =>
    obtain ⟨k, hk, rfl, hro, hb⟩ := hrel
    obtain ⟨oa, oc, rfl⟩ := hro.shape
    have HRo := Lib.hid hro; have HB := Lib.hid hb
    clear hro
    by_cases hlt : k < g.length
    · have hki : (k : Int) < (g.length : Int) := by omega
      have hk00 : (0 : Int) ≤ (k : Int) := by omega
      obtain ⟨b, off, a', cap', rfl, hc, _, h0n, hix⟩ := HI.out.below hb k hlt
      have hr := HR.out k hlt
      have HOr := Lib.hid (ordered_any (g.getD k []) a' cap' wr hix hr)
      rw [plain_ord] at HOr
      have HPb : Hid (∀ i, i < (plainL (g.getD k [])).length → -4000 ≤ (plainL (g.getD k [])).getD i 0 ∧ (plainL (g.getD k [])).getD i 0 ≤ 4000) := Lib.hid fun i hi => HBd.out k hlt _ (((plain_facts _).2 _).1 (getD_mem _ 0 i hi))
      have hpl := plain_len (g.getD k [])
      have HSk := Lib.hid (HS.out k hlt)
      have hLn := HLen.out k hk
      have HShk := Lib.hid (HSh.out k)
      have hO1000 : (cleanL (g.take k)).length ≤ 1000 := by omega
      have hX1000 : (plainL (g.getD k [])).length ≤ 1000 := by omega
      clear hix hb h0n hLn hpl
      generalize hL1 : cleanL (g.take (k + 1)) = O1 at *
      have HO1 := Lib.hid hL1; clear hL1
      generalize cleanL (g.take k) = O at *
      generalize plainL (g.getD k []) = X at *
      generalize (g.getD k []).length = xn at *
      go_wp2_with fail
      refine HOr.out.mono ?_; rintro e w3 ⟨⟨v3, rfl, hown3⟩, hb3⟩
      obtain ⟨xa, xc, rfl, hxlc, hxi⟩ := ints_of_owns hown3
      have HXi := Lib.hid hxi
      have HXn : Hid (xa = none → xc = 0) := Lib.hid (fun e => owns_none (e ▸ hown3))
      obtain ⟨B0, hB0⟩ : ∃ B0, B0 = wr.heap.size := ⟨_, rfl⟩
      have HXb : Hid (∀ b off, xa = some ⟨b, off, none⟩ → B0 ≤ b ∧ b < w3.heap.size) := Lib.hid (fun b off e => by
        rw [hB0]; exact owns_lt hown3 (by rw [e]; rfl))
      have HGo : Hid (∀ g, (Value.slice oa O.length oc).ownBlock = some g → g < B0) := Lib.hid (fun g hg => by
        obtain ⟨vals0, hov0, _⟩ := HRo.out
        rw [hB0]; exact (owns_lt hov0 hg).2)
      have HB0 : Hid (w.heap.size ≤ B0 ∧ B0 ≤ w3.heap.size) := Lib.hid (by rw [hB0]; exact ⟨HB.out.size, hb3.size⟩)
      clear hB0
      have HRo3 := Lib.hid (HRo.out.below hb3)
      have HBw3 := Lib.hid (HB.out.trans (hb3.mono HB.out.size))
      clear hc hown3 hb3 hxi
      go_wp2_with fail
      go_loopw [10, 11] (fun bo i ws => ∃ m : Nat, m ≤ X.length ∧ i = .int .i64 m ∧ bo = .bool ((X.take m).any fun l => hasB X (-l)) ∧ w3 = ws) (fun _ i _ => X.length - (intOf i).toNat)
      case atStart => exact ⟨0, Nat.zero_le _, rfl, rfl, by trivial⟩
      case round =>
        obtain ⟨m, hm, rfl, rfl, rfl⟩ := hrel
        by_cases hmx : m < X.length
        · have hmi : (m : Int) < (X.length : Int) := by omega
          have HT := Lib.hid (any_take_succ X 0 (fun l => hasB X (-l)) m hmx)
          have HH := Lib.hid (has_any X (-X.getD m 0) xa xc w3 HXi.out (by omega))
          obtain ⟨b2, o2, rfl, hcx⟩ := HXi.out m hmx
          obtain ⟨hy1, hy2⟩ := HPb.out m hmx
          generalize ht1 : (X.take (m + 1)).any (fun l => hasB X (-l)) = t1 at *
          have HT0 := Lib.hid ht1; clear ht1
          generalize (X.take m).any (fun l => hasB X (-l)) = t0 at *
          generalize X.getD m 0 = y at *
          generalize hasB X (-y) = hy at *
          cases t0
          · have HT1 : Hid (t1 = hy) := Lib.hid (by rw [HT.out, Bool.false_or])
            go_wp2_with fail
            refine HH.out.mono ?_; rintro e w4 ⟨rfl, rfl⟩
            go_wp2_with fail
            go_roundw
            case rel => exact ⟨m + 1, by omega, by go_num, by rw [HT0.out, HT1.out], by trivial⟩
            case measure => simp [intOf]; omega
          · have HT1 : Hid (t1 = true) := Lib.hid (by rw [HT.out, Bool.true_or])
            go_wp2_with fail
            go_roundw
            case rel => exact ⟨m + 1, by omega, by go_num, by rw [HT0.out, HT1.out], by trivial⟩
            case measure => simp [intOf]; omega
        · have hmX : m = X.length := by omega
          have HTx : Hid ((X.take m).any (fun l => hasB X (-l)) = tautB X) := Lib.hid (by rw [hmX, List.take_length]; rfl)
          rw [HTx.out]
          clear hmX
          generalize tautB X = tb at *
          cases tb
          rotate_left
          · have HO2 : Hid (O1 = O) := Lib.hid (by rw [HSk.out]; rfl)
            go_wp2_with fail
            go_roundw
            case rel => exact ⟨k + 1, by omega, by go_num, by rw [HO1.out, HO2.out]; exact HRo3.out, HBw3.out⟩
            case measure => simp [intOf]; omega
          · have HO2 : Hid (O1 = insR X O) := Lib.hid (by rw [HSk.out]; rfl)
            go_wp2_with fail
            obtain ⟨vals, hov, hra⟩ := HRo3.out
            have HOv := Lib.hid hov; have HRa := Lib.hid hra
            clear hov hra
            go_loopw [12] (fun i ws => ∃ j : Nat, j ≤ O.length ∧ i = .int .i64 j ∧ Below w3.heap.size w3 ws ∧ Hid (∀ i, i < O.length → i < j → ltL (O.getD i []) X)) (fun i _ => O.length - (intOf i).toNat)
            case atStart => exact ⟨0, Nat.zero_le _, rfl, Below.refl _ _, Lib.hid fun i h hij => absurd hij (Nat.not_lt_zero _)⟩
            case round =>
              obtain ⟨j, hj, rfl, hbs, HLt⟩ := hrel
              have HBs := Lib.hid hbs
              by_cases hjO : j < O.length
              · have hji : (j : Int) < (O.length : Int) := by omega
                have hj00 : (0 : Int) ≤ (j : Int) := by omega
                obtain ⟨a1, c1, hv1, -, hi1⟩ := slice_of HRa.out hjO
                obtain ⟨g0, c0, e0, -, -, -, -, hcell, -⟩ := owns_cells HOv.out (by omega)
                cases e0
                have hcj := keep (hcell j _ hv1) hbs
                have HBe := Lib.hid (fun W (h : Below w3.heap.size w3 W) => before_any (O.getD j []) X a1 xa c1 xc W (hi1.below h) (HXi.out.below h) (by have := HShk.out j; omega))
                have HSa := Lib.hid (fun W (h : Below w3.heap.size w3 W) => sameG_any (O.getD j []) X a1 xa c1 xc W (hi1.below h) (HXi.out.below h) (by have := HShk.out j; omega))
                have HL1 : Hid (ltL (O.getD j []) X → ∀ i, i < O.length → i < j + 1 → ltL (O.getD i []) X) := Lib.hid fun h i hi hij => by
                  by_cases e : i = j
                  · subst e; exact h
                  · exact HLt.out i hi (by omega)
                have HAt := Lib.hid (fun h => at_row HLt.out hj fun _ => h)
                have HTh := Lib.hid (fun h => ins_row_there (O := O) (X := X) (j := j) h hjO)
                have HHo := Lib.hid (fun h e => ins_row_hole (O := O) (X := X) (j := j) h fun _ => e)
                have HAt : Hid (¬ ltL (O.getD j []) X → atG ltL X O = j) := HAt
                have HTh : Hid (atG ltL X O = j → O.getD j [] = X → insR X O = O) := HTh
                have HHo : Hid (atG ltL X O = j → O.getD j [] ≠ X → insR X O = holeL O j X) := HHo
                clear hcell hv1 hi1
                unfold ltL at HL1 HAt
                generalize O.getD j [] = Y at *
                generalize hyn : Y.length = yn at *
                clear hyn
                by_cases hyx : lexC Y X < 0
                · rw [decide_eq_true hyx] at HBe
                  have HYX := Lib.hid hyx; clear hyx
                  have HBe2 := Lib.hid (HBe.out wr hbs)
                  clear hbs
                  go_wp2_with fail
                  refine HBe2.out.mono ?_; rintro e w4 ⟨rfl, hb4⟩
                  go_wp2_with fail
                  go_roundw
                  case rel => exact ⟨j + 1, by omega, by go_num, HBs.out.trans (hb4.mono HBs.out.size), Lib.hid (HL1.out HYX.out)⟩
                  case measure => simp [intOf]; omega
                · rw [decide_eq_false hyx] at HBe
                  have HAj := Lib.hid (HAt.out hyx); clear hyx
                  have HBe2 := Lib.hid (HBe.out wr hbs)
                  clear hbs
                  by_cases hxy : Y = X
                  · rw [decide_eq_true hxy] at HSa
                    have HI1 := Lib.hid (HTh.out HAj.out hxy); clear hxy
                    go_wp2_with fail
                    refine HBe2.out.mono ?_; rintro e w4 ⟨rfl, hb4⟩
                    have HB4 := Lib.hid (HBs.out.trans (hb4.mono HBs.out.size))
                    have hcj4 := keep hcj hb4
                    clear hb4 hcj
                    go_wp2_with fail
                    refine (HSa.out _ HB4.out).mono ?_; rintro e w5 ⟨rfl, hb5⟩
                    have HB5 := Lib.hid (HB4.out.trans (hb5.mono HB4.out.size))
                    clear hb5 hcj4
                    go_wp2_with fail
                    go_roundw
                    case rel => exact ⟨k + 1, by omega, by go_num, by rw [HO1.out, HO2.out, HI1.out]; exact HRo3.out.below HB5.out, HBw3.out.trans (HB5.out.mono HBw3.out.size)⟩
                    case measure => simp [intOf]; omega
                  · rw [decide_eq_false hxy] at HSa
                    have HI1 := Lib.hid (HHo.out HAj.out hxy); clear hxy
                    go_wp2_with fail
                    refine HBe2.out.mono ?_; rintro e w4 ⟨rfl, hb4⟩
                    have HB4 := Lib.hid (HBs.out.trans (hb4.mono HBs.out.size))
                    have hcj4 := keep hcj hb4
                    clear hb4 hcj
                    go_wp2_with fail
                    refine (HSa.out _ HB4.out).mono ?_; rintro e w5 ⟨rfl, hb5⟩
                    have HB5 := Lib.hid (HB4.out.trans (hb5.mono HB4.out.size))
                    clear hb5 hcj4
                    have HBw5 := Lib.hid (HBw3.out.trans (HB5.out.mono HBw3.out.size))
                    have HOv5 := Lib.hid (owns_below HOv.out HB5.out)
                    have HRa5 := Lib.hid (HRa.out.below HB5.out)
                    have HX5 := Lib.hid (HXi.out.below HB5.out)
                    have HXb5 : Hid (∀ b off, xa = some ⟨b, off, none⟩ → B0 ≤ b ∧ b < w5.heap.size) := Lib.hid (fun b off e => ⟨(HXb.out b off e).1, Nat.lt_of_lt_of_le (HXb.out b off e).2 HB5.out.size⟩)
                    have HN6 := Lib.hid (cell_one_at w5 (.slice none 0 0) 40)
                    have HO6 := Lib.hid (HOv5.out.alloc (.cells #[.slice none 0 0] 40))
                    have HB6 := Lib.hid (HBw5.out.alloc HBw5.out.size (.cells #[.slice none 0 0] 40))
                    have HS63 : Hid (O.length + 1 ≤ maxLen) := Lib.hid (by unfold maxLen; omega)
                    have HSb : Hid ((O.length + 1) * 24 ≤ 140737488355328) := Lib.hid (by omega)
                    have HZ6 : Hid (w.heap.size ≤ (w5.alloc (.cells #[.slice none 0 0] 40)).heap.size) := Lib.hid HB6.out.size
                    go_wp2_with (first | (at_builtin; refine wpList_append_own_at _ rfl _ _ 22 rfl w.heap.size 40 j0 (.slice none 0 0) 1 24 Try.underlying22 hj0 jp0 jp1 jp2 rfl (by decide) _ _ _ rfl HO6.out ⟨w5.heap.size, 0, none⟩ 1 1 [.slice none 0 0] rfl rfl HN6.out (by simp [Value.oneCell']) HS63.out HSb.out HZ6.out ?_; intro v9 w9 hown9 hgrow9 _ hat9; have HB9 := Lib.hid (HB6.out.grown hgrow9 HZ6.out (fun g hg => (owns_lt HO6.out hg).1)); obtain ⟨g9, c9, V, y9, e9, hcur9, hvl9⟩ := grown_nil HOv5.out HRa5.out hown9 hgrow9 hat9; subst e9; have HX9 := Lib.hid (one_grown HX5.out hxlc HXn.out HXb5.out HB0.out.1 HGo.out hgrow9 hat9); have HC9 := Lib.hid hcur9; have HVl := Lib.hid hvl9; clear hown9 hgrow9 hat9 hcur9 hvl9))
                    go_loopw [13] (fun i wr2 => ∃ (q : Nat) (y : Value), j ≤ q ∧ q ≤ O.length ∧ i = .int .i64 q ∧ Cur wr2 w.heap.size g9 c9 (O.length + 1) O V (holeL V q y) ∧ RowsAre wr2 w.heap.size (some g9) [X] [.slice xa X.length xc] ∧ Below w.heap.size w wr2) (fun i _ => (intOf i).toNat)
                    case atStart => exact ⟨O.length, y9, hj, Nat.le_refl _, rfl, HC9.out, HX9.out, HB9.out⟩
                    case round =>
                      obtain ⟨q, y, hjq, hq, rfl, hcur, hxr, hb⟩ := hrel
                      have HCq := Lib.hid hcur; have HBq := Lib.hid hb; have HXq := Lib.hid hxr
                      have hb9 := hcur.base_le
                      have hlq := hole_len V q y
                      have hfq := hcur.free q
                      have hcq := hcur.cell q (by omega)
                      rw [List.getElem?_eq_getElem (by rw [hlq, HVl.out]; omega)] at hcq
                      obtain ⟨z2, hz2⟩ : ∃ z2, z2 = (holeL V q y)[q]'(by rw [hlq, HVl.out]; omega) := ⟨_, rfl⟩
                      rw [← hz2] at hcq
                      clear hz2 hb hxr
                      by_cases hjq2 : j < q
                      · obtain ⟨p, hqp⟩ : ∃ p, q = p + 1 := ⟨q - 1, by omega⟩
                        have hpo : p < O.length := by omega
                        have hpv : p < V.length := by rw [HVl.out]; exact hpo
                        obtain ⟨a2, c2, hv2, -, -⟩ := slice_of hcur.are hpo
                        have hcp := hcur.cell p (by omega)
                        rw [show (holeL V q y)[p]? = V[p]? by rw [hqp]; exact hole_get V p y hpv, hv2] at hcp
                        have hvp : V[p] = .slice a2 (O.getD p []).length c2 := by
                          rw [List.getElem?_eq_getElem hpv] at hv2
                          exact Option.some.inj hv2
                        have HSt : Hid ((holeL V q y).set q (.slice a2 (O.getD p []).length c2) = holeL V p (.slice a2 (O.getD p []).length c2)) := Lib.hid (by
                          rw [hole_set V q y _ (by rw [HVl.out]; exact hq), hqp, ← hvp, hole_step V p hpv])
                        have hpw : IntKind.i64.wrap ((q : Int) - 1) = (p : Int) := by rw [IntKind.wrap_i64]; omega
                        have hpq : (q : Int) - 1 = (p : Int) := by omega
                        have HPQ := Lib.hid hpq
                        have hpj : (j : Int) < (q : Int) := by omega
                        have hpjd : decide ((j : Int) < (q : Int)) = true := decide_eq_true hpj
                        have hp0 : (0 : Int) ≤ (p : Int) := by omega
                        have hpl : (p : Int) < ((O.length + 1 : Nat) : Int) := by omega
                        have hql : (q : Int) < ((O.length + 1 : Nat) : Int) := by omega
                        have hq0 : (0 : Int) ≤ (q : Int) := by omega
                        have HMs : Hid (p < q ∧ j ≤ p ∧ p ≤ O.length) := Lib.hid (by omega)
                        clear hcur hvp hv2 hpv hlq
                        generalize (O.getD p []).length = n2 at *
                        generalize hm1 : O.length + 1 = m1 at *
                        clear hqp hpq
                        go_wp2_with fail
                        go_roundw
                        case rel => exact ⟨p, _, HMs.out.2.1, HMs.out.2.2, by have := HPQ.out; congr 1, by rw [← HSt.out]; exact HCq.out.set q _, HXq.out.setCell q _, HBq.out.setCell hb9.1 _⟩
                        case measure => have := HMs.out; have := HPQ.out; simp [intOf]; omega
                      · obtain rfl : q = j := by omega
                        have hpj : ¬ (q : Int) < (q : Int) := by omega
                        have hql : (q : Int) < ((O.length + 1 : Nat) : Int) := by omega
                        have hq0 : (0 : Int) ≤ (q : Int) := by omega
                        have HF : Hid (RowsOwn (wr.setCell ⟨g9, q, none⟩ (.slice xa X.length xc)) w.heap.size (.slice (some ⟨g9, 0, none⟩) (O.length + 1) c9) O1) := Lib.hid (by
                          have h1 := HCq.out.set q (.slice xa X.length xc)
                          rw [hole_set V q y _ (by rw [HVl.out]; exact hq)] at h1
                          rw [HO2.out, HI1.out]
                          exact ⟨_, by rw [hole_len]; exact h1.own, h1.are.hole (HXq.out.setCell q _) hq HVl.out⟩)
                        have HL9 : Hid (O.length + 1 = O1.length) := Lib.hid (by rw [HO2.out, HI1.out, hole_len])
                        clear hcur hlq
                        go_wp2_with fail
                        go_roundw
                        case rel => exact ⟨k + 1, by omega, by go_num, by rw [HO1.out]; exact HF.out, HBq.out.setCell hb9.1 _⟩
                        case measure => simp [intOf]; omega
              · have hji : ¬ (j : Int) < (O.length : Int) := by omega
                have hjd : decide ((j : Int) < (O.length : Int)) = false := decide_eq_false hji
                have HAj := Lib.hid (at_row (X := X) HLt.out hj fun h => absurd h hjO)
                have HI1 := Lib.hid (ins_row_hole (O := O) (X := X) (j := j) HAj.out fun h => absurd h hjO)
                have HB5 := HBs
                clear hbs
                generalize wr = w5 at *
                have HBw5 := Lib.hid (HBw3.out.trans (HB5.out.mono HBw3.out.size))
                have HOv5 := Lib.hid (owns_below HOv.out HB5.out)
                have HRa5 := Lib.hid (HRa.out.below HB5.out)
                have HX5 := Lib.hid (HXi.out.below HB5.out)
                have HXb5 : Hid (∀ b off, xa = some ⟨b, off, none⟩ → B0 ≤ b ∧ b < w5.heap.size) := Lib.hid (fun b off e => ⟨(HXb.out b off e).1, Nat.lt_of_lt_of_le (HXb.out b off e).2 HB5.out.size⟩)
                have HN6 := Lib.hid (cell_one_at w5 (.slice none 0 0) 40)
                have HO6 := Lib.hid (HOv5.out.alloc (.cells #[.slice none 0 0] 40))
                have HB6 := Lib.hid (HBw5.out.alloc HBw5.out.size (.cells #[.slice none 0 0] 40))
                have HS63 : Hid (O.length + 1 ≤ maxLen) := Lib.hid (by unfold maxLen; omega)
                have HSb : Hid ((O.length + 1) * 24 ≤ 140737488355328) := Lib.hid (by omega)
                have HZ6 : Hid (w.heap.size ≤ (w5.alloc (.cells #[.slice none 0 0] 40)).heap.size) := Lib.hid HB6.out.size
                go_wp2_with (first | (at_builtin; refine wpList_append_own_at _ rfl _ _ 22 rfl w.heap.size 40 j0 (.slice none 0 0) 1 24 Try.underlying22 hj0 jp0 jp1 jp2 rfl (by decide) _ _ _ rfl HO6.out ⟨w5.heap.size, 0, none⟩ 1 1 [.slice none 0 0] rfl rfl HN6.out (by simp [Value.oneCell']) HS63.out HSb.out HZ6.out ?_; intro v9 w9 hown9 hgrow9 _ hat9; have HB9 := Lib.hid (HB6.out.grown hgrow9 HZ6.out (fun g hg => (owns_lt HO6.out hg).1)); obtain ⟨g9, c9, V, y9, e9, hcur9, hvl9⟩ := grown_nil HOv5.out HRa5.out hown9 hgrow9 hat9; subst e9; have HX9 := Lib.hid (one_grown HX5.out hxlc HXn.out HXb5.out HB0.out.1 HGo.out hgrow9 hat9); have HC9 := Lib.hid hcur9; have HVl := Lib.hid hvl9; clear hown9 hgrow9 hat9 hcur9 hvl9))
                clear hji hjO hjd
                go_loopw [13] (fun i wr2 => ∃ (q : Nat) (y : Value), j ≤ q ∧ q ≤ O.length ∧ i = .int .i64 q ∧ Cur wr2 w.heap.size g9 c9 (O.length + 1) O V (holeL V q y) ∧ RowsAre wr2 w.heap.size (some g9) [X] [.slice xa X.length xc] ∧ Below w.heap.size w wr2) (fun i _ => (intOf i).toNat)
                case atStart => exact ⟨O.length, y9, hj, Nat.le_refl _, rfl, HC9.out, HX9.out, HB9.out⟩
                case round =>
                  obtain ⟨q, y, hjq, hq, rfl, hcur, hxr, hb⟩ := hrel
                  have HCq := Lib.hid hcur; have HBq := Lib.hid hb; have HXq := Lib.hid hxr
                  have hb9 := hcur.base_le
                  have hlq := hole_len V q y
                  have hfq := hcur.free q
                  have hcq := hcur.cell q (by omega)
                  rw [List.getElem?_eq_getElem (by rw [hlq, HVl.out]; omega)] at hcq
                  obtain ⟨z2, hz2⟩ : ∃ z2, z2 = (holeL V q y)[q]'(by rw [hlq, HVl.out]; omega) := ⟨_, rfl⟩
                  rw [← hz2] at hcq
                  clear hz2 hb hxr
                  by_cases hjq2 : j < q
                  · obtain ⟨p, hqp⟩ : ∃ p, q = p + 1 := ⟨q - 1, by omega⟩
                    have hpo : p < O.length := by omega
                    have hpv : p < V.length := by rw [HVl.out]; exact hpo
                    obtain ⟨a2, c2, hv2, -, -⟩ := slice_of hcur.are hpo
                    have hcp := hcur.cell p (by omega)
                    rw [show (holeL V q y)[p]? = V[p]? by rw [hqp]; exact hole_get V p y hpv, hv2] at hcp
                    have hvp : V[p] = .slice a2 (O.getD p []).length c2 := by
                      rw [List.getElem?_eq_getElem hpv] at hv2
                      exact Option.some.inj hv2
                    have HSt : Hid ((holeL V q y).set q (.slice a2 (O.getD p []).length c2) = holeL V p (.slice a2 (O.getD p []).length c2)) := Lib.hid (by
                      rw [hole_set V q y _ (by rw [HVl.out]; exact hq), hqp, ← hvp, hole_step V p hpv])
                    have hpw : IntKind.i64.wrap ((q : Int) - 1) = (p : Int) := by rw [IntKind.wrap_i64]; omega
                    have hpq : (q : Int) - 1 = (p : Int) := by omega
                    have HPQ := Lib.hid hpq
                    have hpj : (j : Int) < (q : Int) := by omega
                    have hpjd : decide ((j : Int) < (q : Int)) = true := decide_eq_true hpj
                    have hp0 : (0 : Int) ≤ (p : Int) := by omega
                    have hpl : (p : Int) < ((O.length + 1 : Nat) : Int) := by omega
                    have hql : (q : Int) < ((O.length + 1 : Nat) : Int) := by omega
                    have hq0 : (0 : Int) ≤ (q : Int) := by omega
                    have HMs : Hid (p < q ∧ j ≤ p ∧ p ≤ O.length) := Lib.hid (by omega)
                    clear hcur hvp hv2 hpv hlq
                    generalize (O.getD p []).length = n2 at *
                    generalize hm1 : O.length + 1 = m1 at *
                    clear hqp hpq
                    go_wp2_with fail
                    go_roundw
                    case rel => exact ⟨p, _, HMs.out.2.1, HMs.out.2.2, by have := HPQ.out; congr 1, by rw [← HSt.out]; exact HCq.out.set q _, HXq.out.setCell q _, HBq.out.setCell hb9.1 _⟩
                    case measure => have := HMs.out; have := HPQ.out; simp [intOf]; omega
                  · obtain rfl : q = j := by omega
                    have hpj : ¬ (q : Int) < (q : Int) := by omega
                    have hql : (q : Int) < ((O.length + 1 : Nat) : Int) := by omega
                    have hq0 : (0 : Int) ≤ (q : Int) := by omega
                    have HF : Hid (RowsOwn (wr.setCell ⟨g9, q, none⟩ (.slice xa X.length xc)) w.heap.size (.slice (some ⟨g9, 0, none⟩) (O.length + 1) c9) O1) := Lib.hid (by
                      have h1 := HCq.out.set q (.slice xa X.length xc)
                      rw [hole_set V q y _ (by rw [HVl.out]; exact hq)] at h1
                      rw [HO2.out, HI1.out]
                      exact ⟨_, by rw [hole_len]; exact h1.own, h1.are.hole (HXq.out.setCell q _) hq HVl.out⟩)
                    have HL9 : Hid (O.length + 1 = O1.length) := Lib.hid (by rw [HO2.out, HI1.out, hole_len])
                    clear hcur hlq
                    go_wp2_with fail
                    go_roundw
                    case rel => exact ⟨k + 1, by omega, by go_num, by rw [HO1.out]; exact HF.out, HBq.out.setCell hb9.1 _⟩
                    case measure => simp [intOf]; omega
    · obtain rfl : k = g.length := by omega
      rw [HRes.out] at HRo ⊢
      go_wp2_with fail
      go_ret2
      exact ⟨⟨_, rfl, HRo.out⟩, HB.out⟩
end Go.Proofs.Ytahaoddilejpnaa
