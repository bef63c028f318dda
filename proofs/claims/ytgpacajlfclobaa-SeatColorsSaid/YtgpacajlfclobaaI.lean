/- The walks of Rowed, after and IsRow. -/
import Derived.Test.YtgpacajlfclobaaE
import Derived.Test.YtgpacajlfclobaaP4
import Derived.Deep.OwnRows
namespace Go.Proofs.Ytgpacajlfclobaa
open Go.RowKit

set_option maxRecDepth 100000 in
set_option maxHeartbeats 1000000 in
theorem rowed_any (l : List (Int × Int)) (a : Option Addr) (cap : Nat) (sp : Int) (w : World) (hin : MovesIn w a l) :
    Calls Try.prog 14 #[.slice a l.length cap, .int .i64 sp] w fun e w' => e = .returned (.int .i64 (rowedE l sp)) ∧ Below w.heap.size w w' := by
  have HV := Lib.hid (rValidate_any l a cap w hin)
  by_cases hv : validM l = 0
  · have hl8 : l.length ≤ 8 := by have := (valid_moves hv).1.len; rwa [toN_len] at this
    have he : rowedE l sp = if regB sp then (if l.any (fun m => m.1 == sp || m.2 == sp) then 5 else 0) else 1 := by unfold rowedE; rw [if_pos hv]
    have HReg := Lib.hid (fun w' => isRegister_any sp w')
    have HI := Lib.hid hin
    rw [hv] at HV
    rw [he]
    clear hin hv he
    cases hr : regB sp
    · rw [hr] at HReg
      clear hr
      go_enter Try.func14, Try.ntmps14
      go_wp2_with fail
      refine HV.out.mono ?_; rintro e w1 ⟨rfl, hb1⟩
      go_wp2_with fail
      refine (HReg.out _).mono ?_; rintro e w2 ⟨rfl, rfl⟩
      go_wp2_with fail
      go_ret
      exact ⟨rfl, hb1⟩
    · rw [hr] at HReg
      rw [if_pos rfl]
      have HYes : Hid (∀ k, k < l.length → ((l.getD k (0, 0)).1 == sp || (l.getD k (0, 0)).2 == sp) = true → (if l.any (fun m => m.1 == sp || m.2 == sp) then (5 : Int) else 0) = 5) := Lib.hid fun k hk h => if_pos (any_here (d := (0, 0)) hk h)
      have HNo : Hid (NoneYet l (fun m => m.1 == sp || m.2 == sp) l.length → (if l.any (fun m => m.1 == sp || m.2 == sp) then (5 : Int) else 0) = 0) := Lib.hid fun h => by rw [h.fin]; rfl
      clear hr
      generalize (if l.any (fun m => m.1 == sp || m.2 == sp) then (5 : Int) else 0) = E at *
      go_enter Try.func14, Try.ntmps14
      go_wp2_with fail
      refine HV.out.mono ?_; rintro e w1 ⟨rfl, hb1⟩
      have HB1 := Lib.hid hb1
      clear hb1
      go_wp2_with fail
      refine (HReg.out _).mono ?_; rintro e w2 ⟨rfl, rfl⟩
      go_wp2_with fail
      go_loopw [6] (fun i wr => ∃ k : Nat, k ≤ l.length ∧ i = .int .i64 k ∧ NoneYet l (fun m => m.1 == sp || m.2 == sp) k ∧ Below w.heap.size w wr) (fun i _ => l.length - (intOf i).toNat)
      case atStart => exact ⟨0, Nat.zero_le _, rfl, NoneYet.zero, HB1.out⟩
      case round =>
        obtain ⟨k, hk, rfl, hny, hb⟩ := hrel
        by_cases hlt : k < l.length
        · have hki : (k : Int) < (l.length : Int) := by omega
          obtain ⟨b, off, rfl, hc1, hc2⟩ := HI.out.below hb k hlt
          have HB := Lib.hid hb
          have HYk := Lib.hid (HYes.out k hlt)
          have HNx := Lib.hid (fun h => hny.next (d := (0, 0)) hlt h)
          clear hb hny
          generalize l.getD k (0, 0) = m at *
          obtain ⟨x, y⟩ := m
          have hc1 : wr.cell? ⟨b, off + k * 2, none⟩ = some (.int .i64 x) := hc1
          have hc2 : wr.cell? ⟨b, off + k * 2 + 1, none⟩ = some (.int .i64 y) := hc2
          have HYk : Hid ((x == sp || y == sp) = true → E = 5) := HYk
          have HNx : Hid ((x == sp || y == sp) = false → NoneYet l (fun m => m.1 == sp || m.2 == sp) (k + 1)) := HNx
          cases hx : x == sp
          · cases hy : y == sp
            · have HN := Lib.hid (HNx.out (by rw [hx, hy]; rfl))
              go_wp2_with fail
              go_roundw
              case rel => exact ⟨k + 1, by omega, by go_num, HN.out, HB.out⟩
              case measure => simp [intOf]; omega
            · have hE := HYk.out (by rw [hx, hy]; rfl)
              subst hE
              go_wp2_with fail
              go_ret
              exact ⟨rfl, HB.out⟩
          · have hE := HYk.out (by rw [hx]; rfl)
            subst hE
            go_wp2_with fail
            go_ret
            exact ⟨rfl, HB.out⟩
        · obtain rfl : k = l.length := by omega
          have hE := HNo.out hny
          subst hE
          have HB := Lib.hid hb
          clear hny hb
          go_wp2_with fail
          go_ret
          exact ⟨rfl, HB.out⟩
  · have he : rowedE l sp = validM l := by unfold rowedE; rw [if_neg hv]
    rw [he]
    generalize validM l = E at *
    have hE : (E == 0) = false := by rw [beq_eq_false_iff_ne]; exact hv
    clear hin hv he
    go_enter Try.func14, Try.ntmps14
    go_wp2_with fail
    refine HV.out.mono ?_; rintro e w1 ⟨rfl, hb1⟩
    go_wp2_with fail
    go_ret
    exact ⟨rfl, hb1⟩

def intArr (n : Nat) (f : Regs) : Array Value := (Array.range n).map fun j => .int .i64 (f j : Nat)
theorem intArr_get (n : Nat) (f : Regs) (k : Nat) (h : k < n) : (intArr n f)[k]? = some (.int .i64 (f k : Nat)) := by
  simp [intArr, h]
theorem intArr_set (n : Nat) (f : Regs) (v x : Nat) : (intArr n f).setIfInBounds v (.int .i64 (x : Nat)) = intArr n (fun j => if j = v then x else f j) := by
  apply Array.ext
  · simp [intArr]
  · intro i h1 h2
    have hi : i < n := by simpa [intArr] using h2
    rw [Array.getElem_setIfInBounds (by simpa [intArr] using hi)]
    by_cases c : v = i
    · subst c; simp [intArr]
    · have c' : ¬ i = v := fun e => c e.symm
      simp [intArr, c, c']
theorem intArr_made (n : Nat) : madeCells #[.int .i64 0] n = intArr n (fun _ => 0) := by
  unfold madeCells intArr
  congr 1
  funext j
  simp [Nat.mod_one]
/-- A block that is the registers. -/
def IRow (w : World) (q : Nat) (f : Regs) : Prop := w.heap[q]? = some (.cells (intArr 31 f) 3 (0, 0))
theorem IRow.cell {w : World} {q : Nat} {f : Regs} (h : IRow w q f) {k : Nat} (hk : k < 31) : w.cell? ⟨q, k, none⟩ = some (.int .i64 (f k : Nat)) := by
  rw [cell_of_row w q k _ _ _ h]; exact intArr_get 31 f k hk
theorem IRow.free {w : World} {q : Nat} {f : Regs} (h : IRow w q f) (k : Nat) : w.frozen? ⟨q, k, none⟩ = false := frozen_of_row w q k _ _ h
theorem IRow.lt {w : World} {q : Nat} {f : Regs} (h : IRow w q f) : q < w.heap.size := lt_of_block h
theorem IRow.set {w : World} {q : Nat} {f : Regs} (h : IRow w q f) (v x : Nat) : IRow (w.setCell ⟨q, v, none⟩ (.int .i64 (x : Nat))) q (fun j => if j = v then x else f j) := by
  unfold IRow
  rw [heap_setCell_same w q v _ _ _ h, intArr_set 31 f v x]
theorem IRow.below {w w' : World} {q : Nat} {f : Regs} (h : IRow w q f) (hb : Below w.heap.size w w') : IRow w' q f := by
  unfold IRow; rw [hb.block q h.lt]; exact h
theorem IRow.congr {w : World} {q : Nat} {f g : Regs} (h : IRow w q f) (e : ∀ j, j < 31 → f j = g j) : IRow w q g := by
  have : intArr 31 f = intArr 31 g := by
    unfold intArr
    apply Array.ext
    · simp
    · intro i h1 h2
      have hi : i < 31 := by simpa using h1
      simp [e i hi]
  unfold IRow at *
  rw [← this]; exact h
/-- What the moves do, one after another told, each reading what was there at the start. -/
def afterR (l : List (Nat × Nat)) : Regs := l.foldl (fun g m j => if j = m.1 then m.2 else g j) id
theorem afterR_snoc (l : List (Nat × Nat)) (m : Nat × Nat) : afterR (l ++ [m]) = fun j => if j = m.1 then m.2 else afterR l j := by
  unfold afterR
  rw [List.foldl_append]
  rfl
theorem afterR_take {l : List (Nat × Nat)} {k : Nat} (h : k < l.length) : afterR (l.take (k + 1)) = fun j => if j = (l.getD k (0, 0)).1 then (l.getD k (0, 0)).2 else afterR (l.take k) j := by
  have e : l.getD k (0, 0) = l[k] := by rw [List.getD_eq_getElem?_getD, List.getElem?_eq_getElem h]; rfl
  rw [List.take_succ_eq_append_getElem h, afterR_snoc, e]
theorem after_fold : ∀ (l : List (Nat × Nat)) (g : Regs) (j : Nat), (l.map (·.1)).Nodup →
    (∀ y, (j, y) ∈ l → l.foldl (fun g m j => if j = m.1 then m.2 else g j) g j = y) ∧ ((∀ y, (j, y) ∉ l) → l.foldl (fun g m j => if j = m.1 then m.2 else g j) g j = g j)
  | [], g, j, _ => ⟨fun y h => (by cases h), fun _ => rfl⟩
  | m :: l, g, j, h => by
    rw [List.map_cons, List.nodup_cons] at h
    obtain ⟨h1, h2⟩ := after_fold l (fun j => if j = m.1 then m.2 else g j) j h.2
    constructor
    · intro y hy
      rcases List.mem_cons.1 hy with e | e
      · subst e
        refine (h2 fun z hz => h.1 (List.mem_map.2 ⟨_, hz, rfl⟩)).trans ?_
        exact if_pos rfl
      · exact h1 y e
    · intro hn
      refine (h2 fun z hz => hn z (List.mem_cons_of_mem _ hz)).trans ?_
      refine if_neg fun e => hn m.2 ?_
      subst e
      simp
theorem afterR_want {l : List (Nat × Nat)} (h : MOk l) (j : Nat) : afterR l j = wantF (fromF l) j := by
  obtain ⟨h1, h2⟩ := after_fold l id j h.one
  unfold wantF
  by_cases c : ∃ y, (j, y) ∈ l
  · obtain ⟨y, hy⟩ := c
    have e : afterR l j = y := h1 y hy
    rw [e]
    by_cases hyj : y = j
    · cases hf : fromF l j with
      | none => exact hyj
      | some z =>
        obtain ⟨h3, h4⟩ := (fromF_iff h).1 hf
        exact pair_same h.one hy h3
    · rw [(fromF_iff h).2 ⟨hy, hyj⟩]; rfl
  · have e : afterR l j = j := h2 fun y hy => c ⟨y, hy⟩
    rw [e]
    cases hf : fromF l j with
    | none => rfl
    | some z => exact absurd ⟨z, ((fromF_iff h).1 hf).1⟩ c

set_option maxRecDepth 100000 in
set_option maxHeartbeats 1000000 in
theorem after_any (l : List (Nat × Nat)) (a : Option Addr) (cap : Nat) (w : World) (hin : PairsIn w a l) (hl : l.length ≤ 8) (hreg : ∀ m ∈ l, m.1 ≤ 30 ∧ m.2 ≤ 30) :
    Calls Try.prog 29 #[.slice a l.length cap] w fun e w' => ∃ q, e = .returned (.slice (some ⟨q, 0, none⟩) 31 31) ∧ w.heap.size ≤ q ∧ IRow w' q (afterR l) ∧ Below w.heap.size w w' := by
  have hmk : ∀ w0 : World, (Instr.makeSlice 35 (.int .i64 31) (.int .i64 31)).run Try.prog w0 = .ok (.slice (some ⟨w0.heap.size, 0, none⟩) 31 31) (w0.alloc (.cells (madeCells #[.int .i64 0] 31) 3)) := fun w0 => run_make_row' (P := Try.prog) 35 3 (.int .i64 0) 8 Try.underlying35 Try.infoInt rfl .i64 .i64 31 (by omega) (by omega) w0
  have hrow0 : IRow (w.alloc (.cells (madeCells #[.int .i64 0] 31) 3)) w.heap.size (fun _ => 0) := by
    rw [intArr_made]; exact heap_at _ _ _ rfl
  have hbl0 : Below w.heap.size w (w.alloc (.cells (madeCells #[.int .i64 0] 31) 3)) := (Below.refl _ _).alloc (Nat.le_refl _) _
  have HI := Lib.hid hin; have HReg : Hid (∀ k, k < l.length → (l.getD k (0, 0)).1 ≤ 30 ∧ (l.getD k (0, 0)).2 ≤ 30) := Lib.hid fun k hk => hreg _ (by rw [List.getD_eq_getElem?_getD, List.getElem?_eq_getElem hk]; simp)
  have HR0 := Lib.hid hrow0; have HB0 := Lib.hid hbl0
  have HTk : Hid (∀ k, k < l.length → afterR (l.take (k + 1)) = fun j => if j = (l.getD k (0, 0)).1 then (l.getD k (0, 0)).2 else afterR (l.take k) j) := Lib.hid fun k hk => afterR_take hk
  have HAll : Hid (afterR (l.take l.length) = afterR l) := Lib.hid (by rw [List.take_length])
  have HZero : Hid (afterR (l.take 0) = id) := Lib.hid rfl
  clear hin hreg hrow0 hbl0
  go_enter Try.func29, Try.ntmps29
  go_wp2_with fail
  generalize hw1 : w.alloc (.cells (madeCells #[.int .i64 0] 31) 3) = w1 at *
  generalize hq : w.heap.size = q at *
  have HQ := Lib.hid hq
  clear hw1 hq hmk
  go_loopw [4] (fun i wr => ∃ k : Nat, k ≤ 31 ∧ i = .int .i64 k ∧ IRow wr q (fun j => if j < k then j else 0) ∧ Below q w wr) (fun i _ => 31 - (intOf i).toNat)
  case atStart => exact ⟨0, Nat.zero_le _, rfl, HR0.out.congr fun j _ => by simp, HB0.out⟩
  case round =>
    obtain ⟨k, hk, rfl, hrow, hb⟩ := hrel
    by_cases hlt : k < 31
    · have hki : (k : Int) < 31 := by omega
      have f1 := hrow.free k
      have c1 := hrow.cell hlt
      have HRow := Lib.hid hrow; have HB := Lib.hid hb
      clear hrow hb
      go_wp2_with fail
      go_roundw
      case rel => exact ⟨k + 1, by omega, by go_num, (HRow.out.set k k).congr fun j hj => by
        by_cases c : j = k
        · subst c; rw [if_pos rfl, if_pos (by omega)]
        · rw [if_neg c]
          by_cases d : j < k
          · rw [if_pos d, if_pos (by omega)]
          · rw [if_neg d, if_neg (by omega)], HB.out.setCell (Nat.le_refl _) _⟩
      case measure => simp [intOf]; omega
    · have hki : ¬ (k : Int) < 31 := by omega
      have HRow : Hid (IRow wr q (afterR (l.take 0))) := Lib.hid (hrow.congr fun j hj => by rw [if_pos (by omega), HZero.out]; rfl)
      have HB := Lib.hid hb
      clear hrow hb
      go_wp2_with fail
      go_loopw [5] (fun i wr => ∃ k : Nat, k ≤ l.length ∧ i = .int .i64 k ∧ IRow wr q (afterR (l.take k)) ∧ Below q w wr) (fun i _ => l.length - (intOf i).toNat)
      case atStart => exact ⟨0, Nat.zero_le _, rfl, HRow.out, HB.out⟩
      case round =>
        obtain ⟨k, hk, rfl, hrow, hb⟩ := hrel
        by_cases hlt : k < l.length
        · have hki : (k : Int) < (l.length : Int) := by omega
          obtain ⟨b, off, rfl, hc1, hc2⟩ := HI.out.below (by rw [HQ.out]; exact hb) k hlt
          obtain ⟨hx30, hy30⟩ := HReg.out k hlt
          have HTKk := Lib.hid (HTk.out k hlt)
          have HRow := Lib.hid hrow; have HB := Lib.hid hb
          clear hrow hb
          generalize l.getD k (0, 0) = m at *
          obtain ⟨x, y⟩ := m
          have hc1 : wr.cell? ⟨b, off + k * 2, none⟩ = some (.int .i64 (x : Nat)) := hc1
          have hc2 : wr.cell? ⟨b, off + k * 2 + 1, none⟩ = some (.int .i64 (y : Nat)) := hc2
          have hx30 : x ≤ 30 := hx30
          have hxi : (x : Int) < 31 := by omega
          have hx31 : x < 31 := by omega
          have f1 := HRow.out.free x
          have c1 := HRow.out.cell hx31
          clear hy30
          go_wp2_with fail
          go_still_tail 12, (by kernel_rfl)
          change wpList _ _ _ _ _ wr.drew
          go_wp2_with fail
          go_roundw
          case rel => exact ⟨k + 1, by omega, by go_num, by rw [HTKk.out]; exact HRow.out.set x y, (HB.out.setCell (Nat.le_refl _) _).drew⟩
          case measure => simp [intOf]; omega
        · obtain rfl : k = l.length := by omega
          rw [HAll.out] at hrow
          have HRow := Lib.hid hrow; have HB := Lib.hid hb
          clear hrow hb
          go_wp2_with fail
          go_ret
          exact ⟨q, rfl, by rw [HQ.out]; exact Nat.le_refl _, HRow.out, by rw [HQ.out]; exact HB.out⟩
end Go.Proofs.Ytgpacajlfclobaa
