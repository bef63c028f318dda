/- Packed of several texts. -/
import Derived.Test.YtpdbokbmchlgpaaGreatK00
import Derived.Test.YtpdbokbmchlgpaaGreatK24
import Derived.Lib.SmallJoins
import Derived.Test.YtpdbokbmchlgpaaGreatK13
namespace Go.Proofs.YtpdbokbmchlgpaaGreat.PK
open Go.RowKit Go.Joins Go.Deep Go.ChangeShapes Go.WideShapes

/-- The words of an instruction are words, and its lists no longer than a list can be. -/
structure InsBd (x : Ins) : Prop where
  im : x.im < 4294967296
  fl : -9223372036854775808 ≤ x.fl ∧ x.fl < 9223372036854775808
  ar : x.ar.length ≤ maxLen
  tt : x.tt.length ≤ maxLen
theorem row_cells : Tryz.prog.cellsOf 22 = 1 := by kernel_rfl
set_option maxRecDepth 100000 in
theorem inst_cells {H : Type} {enc : TypeId × Value → H} {w : World} {base fuel : Nat} {held : Bool} {cs : List Value} {x : DataW H × List MemPlace}
    (h : DataW.trod enc Tryz.prog w base (fun _ => true) held fuel 65 cs = some x) :
    ∃ (q : Ins) (e : InsA), cs = [.int .i64 q.op, .int .i64 q.wd, .int .i64 q.fl, .slice e.aa q.ar.length e.ca, .int .u32 q.im, .slice e.ta q.tt.length e.ct] ∧ IntsIn w e.aa q.ar ∧ IntsIn w e.ta q.tt ∧ InsBd q := by
  obtain ⟨xs, m, rfl, _, hlen, hxl, hf⟩ := DataW.trod_struct Tryz.underlying65 h
  have c6 : Tryz.prog.cellsOf 65 = 6 := by kernel_rfl
  rw [c6] at hlen
  match cs, hlen with
  | [v0, v1, v2, v3, v4, v5], _ =>
    match xs, hxl with
    | [y0, y1, y2, y3, y4, y5], _ =>
      have g0 : DataW.trod enc Tryz.prog w base (fun _ => true) held m 3 [v0] = some y0 := by have := hf 0 _ rfl; simpa [int_cells, u32_cells, row_cells] using this
      have g1 : DataW.trod enc Tryz.prog w base (fun _ => true) held m 3 [v1] = some y1 := by have := hf 1 _ rfl; simpa [int_cells, u32_cells, row_cells] using this
      have g2 : DataW.trod enc Tryz.prog w base (fun _ => true) held m 3 [v2] = some y2 := by have := hf 2 _ rfl; simpa [int_cells, u32_cells, row_cells] using this
      have g3 : DataW.trod enc Tryz.prog w base (fun _ => true) held m 22 [v3] = some y3 := by have := hf 3 _ rfl; simpa [int_cells, u32_cells, row_cells] using this
      have g4 : DataW.trod enc Tryz.prog w base (fun _ => true) held m 41 [v4] = some y4 := by have := hf 4 _ rfl; simpa [int_cells, u32_cells, row_cells] using this
      have g5 : DataW.trod enc Tryz.prog w base (fun _ => true) held m 22 [v5] = some y5 := by have := hf 5 _ rfl; simpa [int_cells, u32_cells, row_cells] using this
      obtain ⟨x0, h0, _, w0⟩ := DataW.trod_int Tryz.underlying3 g0
      obtain ⟨x1, h1, _, w1⟩ := DataW.trod_int Tryz.underlying3 g1
      obtain ⟨x2, h2, _, w2⟩ := DataW.trod_int Tryz.underlying3 g2
      obtain ⟨a3, c3, l3, rfl, i3, _, n3⟩ := open_ints g3
      obtain ⟨x4, h4, _, w4⟩ := DataW.trod_int Tryz.underlying41 g4
      obtain ⟨a5, c5, l5, rfl, i5, _, n5⟩ := open_ints g5
      simp at h0 h1 h2 h4
      have h40 : 0 ≤ x4 := by simp [Lit.wf, IntKind.min, IntKind.max, IntKind.bits, IntKind.signed] at w4; omega
      have h41 : x4 < 4294967296 := by simp [Lit.wf, IntKind.min, IntKind.max, IntKind.bits, IntKind.signed] at w4; omega
      have h2b : -9223372036854775808 ≤ x2 ∧ x2 < 9223372036854775808 := by simp [Lit.wf, IntKind.min, IntKind.max, IntKind.bits, IntKind.signed] at w2; omega
      exact ⟨⟨x0, x1, x2, l3, x4.toNat, l5⟩, ⟨a3, c3, a5, c5⟩, by rw [h0, h1, h2, h4]; simp only [Int.toNat_of_nonneg h40], i3, i5, ⟨by show x4.toNat < _; omega, h2b, n3, n5⟩⟩
set_option maxRecDepth 100000 in
theorem open_insts {H : Type} {enc : TypeId × Value → H} {w : World} {base fuel : Nat} {held : Bool} {v : Value} {x : DataW H × List MemPlace}
    (h : DataW.trod enc Tryz.prog w base (fun _ => true) held fuel 63 [v] = some x) :
    ∃ a cap l, v = .slice a l.length cap ∧ InsIn w a l ∧ l.length ≤ maxLen ∧ ∀ k, k < l.length → InsBd (atI l k) := by
  have c6 : Tryz.prog.cellsOf 65 = 6 := by kernel_rfl
  rcases Deep.open_slice Tryz.underlying63 h with ⟨hv, _⟩ | ⟨a, len, cap, m, n, D, Pq, hv, _, hlc, hcm, hm, _, hall⟩
  · simp only [List.cons.injEq, and_true] at hv
    exact ⟨none, 0, [], hv, fun _ hk => absurd hk (Nat.not_lt_zero _), Nat.zero_le _, fun _ hk => absurd hk (Nat.not_lt_zero _)⟩
  · simp only [List.cons.injEq, and_true] at hv
    rw [if_pos rfl] at hm
    have hex : ∀ i, ∃ qe : Ins × InsA, i < cap → (w.cell? (a.add (i * 6)) = some (.int .i64 qe.1.op) ∧ w.cell? (a.add (i * 6 + 1)) = some (.int .i64 qe.1.wd) ∧ w.cell? (a.add (i * 6 + 2)) = some (.int .i64 qe.1.fl) ∧ w.cell? (a.add (i * 6 + 3)) = some (.slice qe.2.aa qe.1.ar.length qe.2.ca) ∧
        w.cell? (a.add (i * 6 + 4)) = some (.int .u32 qe.1.im) ∧ w.cell? (a.add (i * 6 + 5)) = some (.slice qe.2.ta qe.1.tt.length qe.2.ct)) ∧ IntsIn w qe.2.aa qe.1.ar ∧ IntsIn w qe.2.ta qe.1.tt ∧ InsBd qe.1 := fun i => by
      by_cases hi : i < cap
      · obtain ⟨cs', h1, h2⟩ := hall i (by omega)
        obtain ⟨q, e, rfl, h3, h4, h5⟩ := inst_cells h2
        rw [c6] at h1
        obtain ⟨_, hlen, hcell⟩ := World.cells?_some h1
        have e0 := hcell 0 (by omega)
        have e1 := hcell 1 (by omega)
        have e2 := hcell 2 (by omega)
        have e3 := hcell 3 (by omega)
        have e4 := hcell 4 (by omega)
        have e5 := hcell 5 (by omega)
        rw [Deep.add_add] at e0 e1 e2 e3 e4 e5
        exact ⟨(q, e), fun _ => ⟨⟨by simpa using e0, by simpa using e1, by simpa using e2, by simpa using e3, by simpa using e4, by simpa using e5⟩, h3, h4, h5⟩⟩
      · exact ⟨(noIns, ⟨none, 0, none, 0⟩), fun h => absurd h hi⟩
    obtain ⟨f, hf⟩ := Classical.axiomOfChoice hex
    have eg : ∀ k, k < len → atI ((List.range len).map fun i => (f i).1) k = (f k).1 := fun k hk => by
      unfold atI
      simp [List.getD_eq_getElem?_getD, hk]
    refine ⟨some a, cap, (List.range len).map fun i => (f i).1, by simpa using hv, fun k hk => ?_, by simp; exact Nat.le_trans hlc hcm, fun k hk => ?_⟩
    · have hk : k < len := by simpa using hk
      obtain ⟨⟨h0, h1, h2, h3, h4, h5⟩, hi1, hi2, _⟩ := hf k (by omega)
      obtain ⟨⟨h10, _⟩, _⟩ := hf 0 (by omega)
      have hfl : a = ⟨a.block, a.off, none⟩ := by
        have e : a.add (0 * 6) = a := by unfold Addr.add; simp
        rw [e] at h10
        exact addr_flat h10
      rw [eg k hk]
      rw [add_flat hfl] at h0 h1 h2 h3 h4 h5
      exact ⟨a.block, a.off, (f k).2.aa, (f k).2.ta, (f k).2.ca, (f k).2.ct, by rw [← hfl], ⟨h0, by rw [Nat.add_assoc]; exact h1, by rw [Nat.add_assoc]; exact h2, by rw [Nat.add_assoc]; exact h3, by rw [Nat.add_assoc]; exact h4, by rw [Nat.add_assoc]; exact h5, hi1, hi2⟩⟩
    · have hk : k < len := by simpa using hk
      rw [eg k hk]
      exact (hf k (by omega)).2.2.2
theorem iblk_cells : Tryz.prog.cellsOf 63 = 1 := by kernel_rfl
set_option maxRecDepth 100000 in
theorem open_iblocks {H : Type} {enc : TypeId × Value → H} {w : World} {base fuel : Nat} {held : Bool} {v : Value} {x : DataW H × List MemPlace}
    (h : DataW.trod enc Tryz.prog w base (fun _ => true) held fuel 23 [v] = some x) :
    ∃ a cap ls, v = .slice a ls.length cap ∧ FBIn w a ls ∧ ls.length ≤ maxLen ∧ (∀ k, k < ls.length → (atBk ls k).length ≤ maxLen) ∧ ∀ k i, k < ls.length → i < (atBk ls k).length → InsBd (atI (atBk ls k) i) := by
  rcases Deep.open_slice1 Tryz.underlying23 iblk_cells h with ⟨hv, _⟩ | ⟨a, len, cap, m, n, V, D, Pl, hv, _, hlc, hcm, hm, _, hall⟩
  · simp only [List.cons.injEq, and_true] at hv
    exact ⟨none, 0, [], hv, fun _ hk => absurd hk (Nat.not_lt_zero _), Nat.zero_le _, fun _ hk => absurd hk (Nat.not_lt_zero _), fun k _ hk => absurd hk (Nat.not_lt_zero _)⟩
  · simp only [List.cons.injEq, and_true] at hv
    rw [if_pos rfl] at hm
    have hex : ∀ i, ∃ l : List Ins, i < cap → ∃ a' c', w.cell? (a.add i) = some (.slice a' l.length c') ∧ InsIn w a' l ∧ l.length ≤ maxLen ∧ ∀ k, k < l.length → InsBd (atI l k) := fun i => by
      by_cases hi : i < cap
      · obtain ⟨h1, h2⟩ := hall i (by omega)
        obtain ⟨a', c', l, e, hin, hl, him⟩ := open_insts h2
        refine ⟨l, fun _ => ⟨a', c', by rw [h1, e], hin, hl, him⟩⟩
      · exact ⟨[], fun h => absurd h hi⟩
    obtain ⟨f, hf⟩ := Classical.axiomOfChoice hex
    have eg : ∀ k, k < len → atBk ((List.range len).map f) k = f k := fun k hk => by
      unfold atBk
      simp [List.getD_eq_getElem?_getD, hk]
    refine ⟨some a, cap, (List.range len).map f, by simpa using hv, fun k hk => ?_, by simp; exact Nat.le_trans hlc hcm, fun k hk => ?_, fun k i hk hi => ?_⟩
    · have hk : k < len := by simpa using hk
      obtain ⟨a', c', h1, h2, _⟩ := hf k (by omega)
      obtain ⟨a0, c0, h10, _⟩ := hf 0 (by omega)
      have hfl : a = ⟨a.block, a.off, none⟩ := by
        have e : a.add 0 = a := by unfold Addr.add; simp
        rw [e] at h10
        exact addr_flat h10
      rw [eg k hk]
      rw [add_flat hfl] at h1
      exact ⟨a.block, a.off, a', c', by rw [← hfl], h1, h2⟩
    · have hk : k < len := by simpa using hk
      rw [eg k hk]
      obtain ⟨a', c', _, _, h3, _⟩ := hf k (by omega)
      exact h3
    · have hk : k < len := by simpa using hk
      rw [eg k hk] at hi ⊢
      obtain ⟨a', c', _, _, _, h4⟩ := hf k (by omega)
      exact h4 i hi
/-- The lists of a function are no longer than lists can be. -/
structure FunBd (F : Fun) : Prop where
  ps : F.ps.length ≤ maxLen
  sl : F.sl.length ≤ maxLen
  bs : F.bs.length ≤ maxLen
  bk : ∀ k, k < F.bs.length → (atBk F.bs k).length ≤ maxLen
  ins : ∀ k i, k < F.bs.length → i < (atBk F.bs k).length → InsBd (insA F k i)
theorem FunBd.ok {F : Fun} (h : FunBd F) (hs : FunSm F) : FunOk F := ⟨hs, fun b i hb hi => (h.ins b i hb hi).im, fun b i hb hi => (h.ins b i hb hi).fl⟩
set_option maxRecDepth 100000 in
theorem open_func {H : Type} {enc : TypeId × Value → H} {w : World} {r : Reach} {b0 base : Nat} {held : Bool} {v : Value} {d : DataW H} {p : List MemPlace}
    (hv : Value.okWide Tryz.prog w r b0 25 v) (h : DataW.Trod enc Tryz.prog w base (fun _ => true) held 25 v d p) :
    ∃ F A, v = funV F A ∧ FunIn w F A ∧ FunBd F := by
  obtain ⟨v0, v1, v2, v3, y0, y1, y2, y3, n, rfl, rfl, rfl, h0, h1, h2, h3⟩ := open_agg4 Tryz.underlying25 (by kernel_rfl) (by kernel_rfl) hv h
  obtain ⟨a0, c0, l0, rfl, i0, _, n0⟩ := open_ints h0
  obtain ⟨x1, e1, _, _⟩ := DataW.trod_int Tryz.underlying3 h1
  obtain ⟨a2, c2, l2, rfl, i2, _, n2⟩ := open_ints h2
  obtain ⟨a3, c3, ls, rfl, i3, n3, m3, b3⟩ := open_iblocks h3
  simp only [List.cons.injEq, and_true] at e1
  subst e1
  exact ⟨⟨l0, x1, l2, ls⟩, ⟨a0, c0, a2, c2, a3, c3⟩, rfl, ⟨i0, i2, i3⟩, ⟨n0, n2, n3, m3, b3⟩⟩
end Go.Proofs.YtpdbokbmchlgpaaGreat.PK
namespace Go.Proofs.YtpdbokbmchlgpaaGreat.PK
open Go.RowKit

set_option maxRecDepth 100000 in
set_option maxHeartbeats 2000000 in
theorem Long_any (F : Fun) (A : FunA) (w : World) (hin : FunIn w F A) (hbd : FunBd F) :
    Calls Tryz.prog 6 #[funV F A] w (BoolIff (¬ FunSm F) w) := by
  obtain ⟨pa, pc, sa, sc, ba, bc⟩ := A
  have hal : Below w.heap.size w (w.alloc (.cells #[.slice pa F.ps.length pc, .int .i64 F.ret, .slice sa F.sl.length sc, .slice ba F.bs.length bc] 25)) := (Below.refl _ _).alloc (Nat.le_refl _) _
  have HI := Lib.hid (hin.below hal)
  have hr0 : (w.alloc (.cells #[.slice pa F.ps.length pc, .int .i64 F.ret, .slice sa F.sl.length sc, .slice ba F.bs.length bc] 25)).heap[w.heap.size]? = some (.cells #[.slice pa F.ps.length pc, .int .i64 F.ret, .slice sa F.sl.length sc, .slice ba F.bs.length bc] 25 (0, 0)) := heap_alloc_new _ _
  have g0 := cell_of_row _ _ 0 _ _ _ hr0; have g2 := cell_of_row _ _ 2 _ _ _ hr0; have g3 := cell_of_row _ _ 3 _ _ _ hr0
  have HB0 := Lib.hid hal; have HG3 := Lib.hid g3
  have HBd := Lib.hid hbd
  have HF : Hid (∀ w', FunSm F → Below w.heap.size w w' → BoolIff (¬ FunSm F) w (.returned (.bool false)) w') := Lib.hid fun w' h1 h2 => ⟨⟨false, rfl, by simp [h1]⟩, h2⟩
  have HT : Hid (∀ w', ¬ FunSm F → Below w.heap.size w w' → BoolIff (¬ FunSm F) w (.returned (.bool true)) w') := Lib.hid fun w' h1 h2 => ⟨⟨true, rfl, by simp [h1]⟩, h2⟩
  have n1 : 20 < F.ps.length → ¬ FunSm F := fun h hs => by have := hs.ps; omega
  have n2 : 20 < F.sl.length → ¬ FunSm F := fun h hs => by have := hs.sl; omega
  have n3 : 40 < F.bs.length → ¬ FunSm F := fun h hs => by have := hs.bs; omega
  have HN1 := Lib.hid n1; have HN2 := Lib.hid n2; have HN3 := Lib.hid n3
  have HNk : Hid (∀ k, k < F.bs.length → 100 < (atBk F.bs k).length → ¬ FunSm F) := Lib.hid fun k hk h hs => by have := hs.ins k hk; omega
  have HNi : Hid (∀ k i, k < F.bs.length → i < (atBk F.bs k).length → ¬ ((atI (atBk F.bs k) i).ar.length ≤ 40 ∧ (atI (atBk F.bs k) i).tt.length ≤ 40) → ¬ FunSm F) := Lib.hid fun k i hk hi h hs => h (hs.ars k i hk hi)
  have HY : Hid (F.ps.length ≤ 20 → F.sl.length ≤ 20 → F.bs.length ≤ 40 → (∀ k, k < F.bs.length → (atBk F.bs k).length ≤ 100 ∧ ∀ i, i < (atBk F.bs k).length → (atI (atBk F.bs k) i).ar.length ≤ 40 ∧ (atI (atBk F.bs k) i).tt.length ≤ 40) → FunSm F) := Lib.hid fun h1 h2 h3 h4 => ⟨h1, h2, h3, fun k hk => (h4 k hk).1, fun k i hk hi => (h4 k hk).2 i hi⟩
  generalize BoolIff (¬ FunSm F) w = PP at *
  clear hin hal hr0 hbd n1 n2 n3
  simp only [funV, funC]
  generalize hn : F.bs.length = n at *
  have HN := Lib.hid hn; clear hn
  generalize hnp : F.ps.length = np at *
  clear hnp
  generalize hns : F.sl.length = ns at *
  clear hns
  go_enter Tryz.func6, Tryz.ntmps6
  go_upto_region 1 with fail
  generalize (w.alloc _) = w1 at *
  by_cases a1 : 20 < np
  · have HE := Lib.hid (HT.out w1 (HN1.out a1) HB0.out)
    go_wp2_with fail
    exact HE.out
  by_cases a2 : 20 < ns
  · have HE := Lib.hid (HT.out w1 (HN2.out a2) HB0.out)
    go_wp2_with fail
    exact HE.out
  by_cases a3 : 40 < n
  · have HE := Lib.hid (HT.out w1 (HN3.out a3) HB0.out)
    go_wp2_with fail
    exact HE.out
  go_wp2_with fail
  clear g0 g2 g3
  go_loopw [3] (fun i wr => ∃ b : Nat, b ≤ n ∧ i = .int .i64 b ∧ Hid (∀ k, k < b → (atBk F.bs k).length ≤ 100 ∧ ∀ i, i < (atBk F.bs k).length → (atI (atBk F.bs k) i).ar.length ≤ 40 ∧ (atI (atBk F.bs k) i).tt.length ≤ 40) ∧ w1 = wr) (fun i _ => n - (intOf i).toNat)
  case atStart => exact ⟨0, Nat.zero_le _, rfl, Lib.hid fun j hj => absurd hj (Nat.not_lt_zero _), rfl⟩
  case round =>
    obtain ⟨b, hb, rfl, HAll, rfl⟩ := hrel
    by_cases hlt : b < n
    rotate_left
    · obtain rfl : b = n := by omega
      have HE := Lib.hid (HF.out w1 (HY.out (by omega) (by omega) (by omega) (fun k hk => HAll.out k hk)) HB0.out)
      have g3 := HG3.out
      go_wp2_with fail
      exact HE.out
    have hbi : (b : Int) < (n : Int) := by omega
    obtain ⟨b1, o1, a1', cp1, ha, hc, hins⟩ := HI.out.bs b (by rw [HN.out]; exact hlt)
    have hm63 := HBd.out.bk b (by rw [HN.out]; exact hlt)
    have HIn := Lib.hid hins
    have HNb := Lib.hid (HNk.out b hlt)
    have HNj := Lib.hid (fun i => HNi.out b i hlt)
    obtain rfl : ba = _ := ha
    have g3 := HG3.out
    have HNx : Hid ((atBk F.bs b).length ≤ 100 → (∀ i, i < (atBk F.bs b).length → (atI (atBk F.bs b) i).ar.length ≤ 40 ∧ (atI (atBk F.bs b) i).tt.length ≤ 40) → ∀ k, k < b + 1 → (atBk F.bs k).length ≤ 100 ∧ ∀ i, i < (atBk F.bs k).length → (atI (atBk F.bs k) i).ar.length ≤ 40 ∧ (atI (atBk F.bs k) i).tt.length ≤ 40) := Lib.hid fun h1 h2 k hk => by
      by_cases e : k = b
      · subst e; exact ⟨h1, h2⟩
      · exact HAll.out k (by omega)
    have HIb := Lib.hid (fun i hi => HBd.out.ins b i (by rw [HN.out]; exact hlt) hi)
    generalize hm : (atBk F.bs b).length = m at *
    have HM := Lib.hid hm; clear hm
    clear hins
    unfold maxLen at hm63
    by_cases m1 : 100 < m
    · have HE := Lib.hid (HT.out w1 (HNb.out m1) HB0.out)
      go_wp2_with fail
      exact HE.out
    go_wp2_with fail
    go_loopw [4] (fun i wr => ∃ d : Nat, d ≤ m ∧ i = .int .i64 d ∧ Hid (∀ i, i < d → (atI (atBk F.bs b) i).ar.length ≤ 40 ∧ (atI (atBk F.bs b) i).tt.length ≤ 40) ∧ w1 = wr) (fun i _ => m - (intOf i).toNat)
    case atStart => exact ⟨0, Nat.zero_le _, rfl, Lib.hid fun j hj => absurd hj (Nat.not_lt_zero _), rfl⟩
    case round =>
      obtain ⟨d, hd, rfl, HK, rfl⟩ := hrel
      by_cases hld : d < m
      rotate_left
      · obtain rfl : d = m := by omega
        have HC2 := Lib.hid (HNx.out (by omega) HK.out)
        go_wp2_with fail
        go_roundw
        case rel => exact ⟨b + 1, by omega, by go_num, HC2, by trivial⟩
        case measure => simp [intOf]; omega
      have hdi : (d : Int) < (m : Int) := by omega
      obtain ⟨b2, o2, aa, ta, ca, ct, rfl, hx⟩ := HIn.out d (by rw [HM.out]; exact hld)
      have x3 := hx.c3; have x5 := hx.c5
      have hib := HIb.out d hld
      have h3 := hib.ar; have h5 := hib.tt
      unfold maxLen at h3 h5
      have HNd := Lib.hid (HNj.out d hld)
      have HKx : Hid (((atI (atBk F.bs b) d).ar.length ≤ 40 ∧ (atI (atBk F.bs b) d).tt.length ≤ 40) → ∀ i, i < d + 1 → (atI (atBk F.bs b) i).ar.length ≤ 40 ∧ (atI (atBk F.bs b) i).tt.length ≤ 40) := Lib.hid fun h i hi => by
        by_cases e : i = d
        · subst e; exact h
        · exact HK.out i (by omega)
      clear hx hib
      generalize (atI (atBk F.bs b) d).ar.length = la at *
      generalize (atI (atBk F.bs b) d).tt.length = lt at *
      by_cases l1 : 40 < la
      · have HE := Lib.hid (HT.out w1 (HNd.out (by omega)) HB0.out)
        go_wp2_with fail
        exact HE.out
      by_cases l2 : 40 < lt
      · have HE := Lib.hid (HT.out w1 (HNd.out (by omega)) HB0.out)
        go_wp2_with fail
        exact HE.out
      have HKn := Lib.hid (HKx.out (by omega))
      go_wp2_with fail
      go_roundw
      case rel => exact ⟨d + 1, by omega, by go_num, HKn, by trivial⟩
      case measure => simp [intOf]; omega
/-- What the laws let in. -/
structure InSm (l : List Int) (ls : List (List Int)) : Prop where
  ar : l.length ≤ 20
  me : ls.length ≤ 20
  row : ∀ k, k < ls.length → (ls.getD k []).length ≤ 50
end Go.Proofs.YtpdbokbmchlgpaaGreat.PK
namespace Go.Proofs.YtpdbokbmchlgpaaGreat.PK
open Go.RowKit

/-- What an instruction must have, as the specification tells it. -/
def frmR (ret : Int) (nsl nar : Nat) (op wd fl : Int) (im : Nat) : Int × Int × Bool :=
  if op = 0 then (0, 0, isNum wd && (decide (fl = 0) && decide (im < 2 ^ wd.toNat)))
  else if op = 14 then (2, 0, decide (wd = 1) && (decide (fl = 0) && decide (im ≤ 9)))
  else if op = 15 then (3, 0, (isNum wd || decide (wd = 33)) && (decide (fl = 0) && decide (im = 0)))
  else if op = 16 ∨ op = 17 ∨ op = 18 ∨ op = 21 then (1, 0, isNum wd && (decide (fl = 0) && decide (im = 0)))
  else if op = 19 ∨ op = 20 then (2, 0, isNum wd && (decide (fl = 0) && (decide (1 ≤ im) && (decide ((im : Int) < wd) && decide (wd.toNat % im = 0)))))
  else if op = 22 ∨ op = 23 then (0, 0, isNum wd && (decide (fl = 0) && decide (im = 0)))
  else if op = 24 then (0, 0, decide (wd = 33) && (decide (fl = 0) && decide (im < nsl)))
  else if op = 25 then (2, 0, decide (wd = 33) && (decide (im = 0) && (decide (fl = 0) || decide (fl = 8))))
  else if op = 26 then (1, 0, (decide (wd = 8) || (decide (wd = 16) || decide (wd = 32))) && (decide (fl = 0) && decide (im = 0)))
  else if op = 27 then (2, 0, decide (wd = 0) && (decide (fl = 0) && decide (im = 0)))
  else if op = 28 then (-1, -1, (isNum wd || decide (wd = 33)) && ((decide (fl = 0) && decide (im = 0)) && decide (0 < nar)))
  else if op = 29 then (0, 1, decide (wd = 0) && (decide (fl = 0) && decide (im = 0)))
  else if op = 30 then (1, 2, decide (wd = 0) && (decide (fl = 0) && decide (im = 0)))
  else if op = 31 then (if 0 < ret then 1 else 0, 0, decide (wd = 0) && (decide (fl = 0) && decide (im = 0)))
  else if op = 32 then (0, 0, decide (wd = 0) && (decide (fl = 0) && decide (im = 0)))
  else if 1 ≤ op ∧ op ≤ 13 then (2, 0, isNum wd && (decide (im = 0) && flOk op fl))
  else (0, 0, false)
theorem sizeFm : (Tryz.prog.info? 133).map (·.size) = some 3 := by kernel_rfl
theorem oneFm (a t : Int) (b : Bool) : (#[.int .i64 a, .int .i64 t, .bool b] : Array Value).all (·.oneCell') = true := by simp [Value.oneCell']
theorem there_row3 {w : World} {b : Nat} {v0 v1 v2 : Value} {t : TypeId} (h : w.heap[b]? = some (.cells #[v0, v1, v2] t (0, 0))) : w.there b 0 3 := fun j hj => ⟨by
  rw [cell_of_row w b _ _ _ _ h]
  match j, hj with
  | 0, _ => rfl
  | 1, _ => rfl
  | 2, _ => rfl, frozen_of_row w b _ _ _ h⟩
theorem set_row3 {w : World} {b : Nat} {v0 v1 v2 : Value} {t : TypeId} (h : w.heap[b]? = some (.cells #[v0, v1, v2] t (0, 0))) (x0 x1 x2 : Value) :
    (w.setCells b 0 [x0, x1, x2]).heap[b]? = some (.cells #[x0, x1, x2] t (0, 0)) := heap_setCell_same _ b 2 _ t x2 (heap_setCell_same _ b 1 _ t x1 (heap_setCell_same w b 0 _ t x0 h))
theorem save_row3 (w : World) (b : Nat) (x0 x1 x2 : Value) : Save b w (w.setCells b 0 [x0, x1, x2]) := ((Save.set b 0 w x0).trans (Save.set b 1 _ x1)).trans (Save.set b 2 _ x2)
/-- What shape answers. -/
def FmPost (r : Int × Int × Bool) (w : World) (e : Ending) (w' : World) : Prop := e = .returned (.agg #[.int .i64 r.1, .int .i64 r.2.1, .bool r.2.2]) ∧ Below w.heap.size w w'

theorem wpList_store_form {ops : Array Oper} {rest : List Oper} {dst : Option Tmp} {ty : TypeId} {pos : String} {after : _} {a : Act} {w : World} {Q : Exit → Act → World → Prop} {T : TypeId} (x y : Operand) (b : Nat) (v0 v1 v2 : Value) (hT : T = 133) (hx : a.eval x = .pointer (some ⟨b, 0, none⟩)) (hy : a.eval y = .agg #[v0, v1, v2]) (ht : w.there b 0 3) (h1 : (#[v0, v1, v2] : Array Value).all (·.oneCell') = true)
    (h : wpList Tryz.prog ops Q rest (a.put dst undef) (w.setCells b 0 #[v0, v1, v2].toList)) : wpList Tryz.prog ops Q ({ dst := dst, op := .store T x y, type := ty, pos := pos, after := after, guard := none } :: rest) a w :=
  wpList_store_mid rfl T x y rfl b 0 #[v0, v1, v2] hx hy ht (hT ▸ sizeFm) h1 h
theorem wpList_store_none {P : Program} {ops : Array Oper} {rest : List Oper} {ty : TypeId} {pos : String} {after : _} {a : Act} {w : World} {Q : Exit → Act → World → Prop} {T : TypeId} {x y : Operand}
    (h : wpList P ops Q ({ dst := none, op := .store T x y, type := ty, pos := pos, after := after, guard := none } :: rest) a w) : wpList P ops Q ({ dst := none, op := .store T x y, type := ty, pos := pos, after := after, guard := none } :: rest) a w := h
end Go.Proofs.YtpdbokbmchlgpaaGreat.PK
