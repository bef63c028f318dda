/- The walk of the document's reach. -/
import Derived.Test.YtmljmmnofhhheaaW6
import Derived.Test.YtmljmmnofhhheaaM2
import Derived.Deep.OwnRows
namespace Go.Proofs.Ytmljmmnofhhheaa
open Go.RowKit

def boolArr (n : Nat) (S : NSet) : Array Value := (Array.range n).map fun j => .bool (S j)
theorem boolArr_size (n : Nat) (S : NSet) : (boolArr n S).size = n := by simp [boolArr]
theorem boolArr_get (n : Nat) (S : NSet) (k : Nat) (h : k < n) : (boolArr n S)[k]? = some (.bool (S k)) := by
  simp [boolArr, h]
theorem boolArr_set (n : Nat) (S : NSet) (v : Nat) (b : Bool) : (boolArr n S).setIfInBounds v (.bool b) = boolArr n (fun j => if j = v then b else S j) := by
  apply Array.ext
  · simp [boolArr]
  · intro i h1 h2
    have hi : i < n := by simpa [boolArr] using h2
    rw [Array.getElem_setIfInBounds (by simpa [boolArr] using hi)]
    by_cases c : v = i
    · subst c; simp [boolArr]
    · have c' : ¬ i = v := fun e => c e.symm
      simp [boolArr, c, c']
theorem boolArr_made (n : Nat) : madeCells #[.bool false] n = boolArr n (fun _ => false) := by
  unfold madeCells boolArr
  congr 1
  funext j
  simp [Nat.mod_one]
/-- A block that is a row of n bools. -/
def BRow (w : World) (q n : Nat) (S : NSet) : Prop := w.heap[q]? = some (.cells (boolArr n S) 4 (0, 0))
theorem BRow.cell {w : World} {q n : Nat} {S : NSet} (h : BRow w q n S) {k : Nat} (hk : k < n) : w.cell? ⟨q, k, none⟩ = some (.bool (S k)) := by
  rw [cell_of_row w q k _ _ _ h]; exact boolArr_get n S k hk
theorem BRow.free {w : World} {q n : Nat} {S : NSet} (h : BRow w q n S) (k : Nat) : w.frozen? ⟨q, k, none⟩ = false := frozen_of_row w q k _ _ h
theorem BRow.lt {w : World} {q n : Nat} {S : NSet} (h : BRow w q n S) : q < w.heap.size := lt_of_block h
theorem BRow.set {w : World} {q n : Nat} {S : NSet} (h : BRow w q n S) (v : Nat) (b : Bool) : BRow (w.setCell ⟨q, v, none⟩ (.bool b)) q n (fun j => if j = v then b else S j) := by
  unfold BRow
  rw [heap_setCell_same w q v _ _ _ h, boolArr_set n S v b]
theorem BRow.mark {w : World} {q n : Nat} {S : NSet} (h : BRow w q n S) (v : Nat) : BRow (w.setCell ⟨q, v, none⟩ (.bool true)) q n (mark S v) := by
  have := h.set v true
  rwa [show (fun j => if j = v then true else S j) = Proofs.Ytmljmmnofhhheaa.mark S v from funext fun j => by unfold Proofs.Ytmljmmnofhhheaa.mark; by_cases c : j = v <;> simp [c]] at this
theorem BRow.below {w w' : World} {q n : Nat} {S : NSet} (h : BRow w q n S) {B : Nat} (hb : Below B w w') (hq : q < B) : BRow w' q n S := by
  unfold BRow; rw [hb.block q hq]; exact h
theorem BRow.alloc {w : World} {q n : Nat} {S : NSet} (h : BRow w q n S) (o : Obj) : BRow (w.alloc o) q n S := by
  unfold BRow; rw [heap_past _ _ _ h.lt]; exact h
theorem BRow.grown {w w' : World} {q n : Nat} {S : NSet} {row : Option Nat} (h : BRow w q n S) (hg : w.grownBy w' row) (hr : ∀ k, row = some k → q < k) : BRow w' q n S := by
  unfold BRow; rw [hg.block q h.lt (fun e => by have := hr q e.symm; omega)]; exact h
/-- A slice of n bools. -/
def BoolSl (w : World) (v : Value) (n : Nat) (S : NSet) : Prop := ∃ q cap, v = .slice (some ⟨q, 0, none⟩) n cap ∧ ∀ k, k < n → w.cell? ⟨q, k, none⟩ = some (.bool (S k))
theorem BoolSl.below {w w' : World} {v : Value} {n : Nat} {S : NSet} (h : BoolSl w v n S) (hb : Below w.heap.size w w') : BoolSl w' v n S := by
  obtain ⟨q, cap, rfl, hn⟩ := h
  exact ⟨q, cap, rfl, fun k hk => keep (hn k hk) hb⟩
theorem Try.infoBool : (Try.prog.info? 4).map (fun i => (i.zero, i.size, i.bytes)) = some (some (.bool false), 1, 1) := by kernel_rfl

theorem owns_bound {w : World} {base : Nat} {e : TypeId} {a : Option Addr} {cap : Nat} {xs : List Nat} (h : w.ownsRow base e 1 (.slice a xs.length cap) xs.length (encN xs)) : NatsIn w a xs := by
  obtain ⟨a', cap', e1, h1⟩ := natSl_of_owns h
  simp only [Value.slice.injEq] at e1
  obtain ⟨rfl, _, _⟩ := e1
  exact h1
theorem owns_form {w : World} {base : Nat} {e : TypeId} {v : Value} {xs : List Nat} (h : w.ownsRow base e 1 v xs.length (encN xs)) : ∃ a cap, v = .slice a xs.length cap := by
  obtain ⟨a, cap, rfl, _⟩ := natSl_of_owns h
  exact ⟨a, cap, rfl⟩

set_option maxRecDepth 100000 in
set_option maxHeartbeats 2000000 in
theorem rReach_row (a : Option Addr) (cap : Nat) (g : Gr) (s : Nat) (but : Int) (w : World) (hg : GraphIn w a g) (ok : OkG g) (hs : s < g.length) :
    Calls Try.prog 48 #[.slice a g.length cap, .int .i64 s, .int .i64 but] w fun e w' => ∃ q cap', e = .returned (.slice (some ⟨q, 0, none⟩) g.length cap') ∧ w.heap.size ≤ q ∧ BRow w' q g.length (rs g but s) ∧ Below w.heap.size w w' := by
  have h10 := ok.ten
  have hmk := run_make_row' (P := Try.prog) 59 4 (.bool false) 1 Try.underlying59 Try.infoBool rfl .i64 .i64 g.length (by omega) (by omega)
  have HG := Lib.hid hg; clear hg
  by_cases hsb : (s : Int) = but
  · have hb : ((s : Int) == but) = true := by simpa using hsb
    have HS := Lib.hid hsb; clear hsb
    go_enter Try.func48, Try.ntmps48
    go_wp2_with fail
    go_ret
    refine ⟨w.heap.size, g.length, rfl, Nat.le_refl _, ?_, (Below.refl _ _).alloc (Nat.le_refl _) _⟩
    rw [rs_none HS.out, boolArr_made]
    exact (show BRow (w.alloc (.cells (boolArr g.length fun _ => false) 4)) w.heap.size g.length (fun _ => false) from heap_at _ _ _ rfl)
  · have hb : ((s : Int) == but) = false := by simpa using hsb
    have HS := Lib.hid hsb; clear hsb
    obtain ⟨i0, hi, hz0, hz1, hz2⟩ := info_parts Try.infoInt
    have hm0 : (madeCells #[Value.bool false] g.length)[s]? = some (.bool false) := by rw [boolArr_made]; exact boolArr_get _ _ _ hs
    go_enter Try.func48, Try.ntmps48
    go_wp2_with fail
    generalize hq : w.heap.size = q at *
    have HQ := Lib.hid hq; clear hq
    have hQ0 : q ≤ w.heap.size := by rw [HQ.out]; exact Nat.le_refl _
    have hb0 : BRow ((w.alloc (.cells ((madeCells #[.bool false] g.length).setIfInBounds s (.bool true)) 4)).alloc (.cells #[.int .i64 (s : Int)] 3)) q g.length (mark (fun _ => false) s) := by
      refine BRow.alloc ?_ _
      have h1 : BRow (w.alloc (.cells (boolArr g.length (fun _ => false)) 4)) q g.length (fun _ => false) := heap_at _ _ _ HQ.out.symm
      have h2 := h1.mark s
      rwa [World.setCell_alloc_at _ _ _ _ _ HQ.out.symm, ← boolArr_made] at h2
    have ho0 : ((w.alloc (.cells ((madeCells #[.bool false] g.length).setIfInBounds s (.bool true)) 4)).alloc (.cells #[.int .i64 (s : Int)] 3)).ownsRow (q + 1) 3 1 (.slice (some ⟨q + 1, 0, none⟩) 1 1) 1 (encN [s]) := by
      have h1 := World.ownsRow_lit (base := q + 1) (e := 3) (size := 1) (w.alloc (.cells ((madeCells #[.bool false] g.length).setIfInBounds s (.bool true)) 4)) #[.int .i64 (s : Int)] 1 (by simp only [World.size_alloc]; have := HQ.out; omega) (by unfold maxLen; omega) rfl
      rw [World.size_alloc, HQ.out] at h1
      exact h1
    have hbel : Below w.heap.size w ((w.alloc (.cells ((madeCells #[.bool false] g.length).setIfInBounds s (.bool true)) 4)).alloc (.cells #[.int .i64 (s : Int)] 3)) := ((Below.refl _ _).alloc (Nat.le_refl _) _).alloc (by simp) _
    generalize (w.alloc (.cells ((madeCells #[.bool false] g.length).setIfInBounds s (.bool true)) 4)).alloc (.cells #[.int .i64 (s : Int)] 3) = W1 at *
    have HB0 := Lib.hid hb0; have HO0 := Lib.hid ho0; have HBel := Lib.hid hbel
    have HST := Lib.hid (Bfs.start HS.out hs)
    have HSl := Lib.hid hs
    clear hb0 ho0 hbel hmk hm0 hs
    go_loopw [8, 9] (fun tv i wr => ∃ (k : Nat) (xs : List Nat) (S : NSet), i = .int .i64 k ∧ Bfs g but s k 0 xs S ∧ wr.ownsRow (q + 1) 3 1 tv xs.length (encN xs) ∧ BRow wr q g.length S ∧ Below w.heap.size w wr) (fun _ i _ => g.length - (intOf i).toNat)
    case atStart => exact ⟨0, [s], _, rfl, HST.out, HO0.out, HB0.out, HBel.out⟩
    case round =>
      obtain ⟨k, xs, S, rfl, hB, hown, hrow, hbl⟩ := hrel
      obtain ⟨ta, tc, rfl⟩ := owns_form hown
      have hlen := hB.len
      by_cases hlt : k < xs.length
      · obtain ⟨b, off, rfl, hx⟩ := owns_bound hown k hlt
        have hxl := (hB.new _ (getD_mem hlt)).lt ok.fits HSl.out
        have HBf := Lib.hid hB; have HOw := Lib.hid hown; have HRw := Lib.hid hrow; have HBl := Lib.hid hbl; have HLt := Lib.hid hlt
        clear hB hown hrow hbl
        generalize hxx : xs.getD k 0 = x at *
        have HXX := Lib.hid hxx; clear hxx
        obtain ⟨gb, goff, a', cap', rfl, hcell0, hrow0⟩ := HG.out x hxl
        have hdg := ok.deg x
        have hcell := keep hcell0 HBl.out
        have HC0 := Lib.hid hcell0; have HR0 := Lib.hid hrow0
        clear hcell0 hrow0
        go_wp2_with fail
        go_loopw [8, 11] (fun tv i wr2 => ∃ (m : Nat) (ys : List Nat) (T : NSet), i = .int .i64 m ∧ m ≤ (succ g x).length ∧ k < ys.length ∧ ys.getD k 0 = x ∧ Bfs g but s k m ys T ∧ wr2.ownsRow (q + 1) 3 1 tv ys.length (encN ys) ∧ BRow wr2 q g.length T ∧ Below w.heap.size w wr2) (fun _ i _ => (succ g x).length - (intOf i).toNat)
        case atStart => exact ⟨0, xs, S, rfl, Nat.zero_le _, HLt.out, HXX.out, HBf.out, HOw.out, HRw.out, HBl.out⟩
        case round =>
          obtain ⟨m, ys, T, rfl, hm, hky, hyx, hB, hown, hrow, hbl⟩ := hrel
          obtain ⟨ta2, tc2, rfl⟩ := owns_form hown
          have hylen := hB.len
          have hcell2 := keep HC0.out hbl
          by_cases hml : m < (succ g x).length
          · obtain ⟨b2, off2, rfl, hx2⟩ := HR0.out.below hbl m hml
            have hx2l := ok.fits _ _ (getD_mem hml)
            have hc2 := hrow.cell hx2l
            have hf2 := hrow.free ((succ g x).getD m 0)
            have HYX := Lib.hid hyx
            have HSk := Lib.hid (hB.skip (i := m) hky)
            have HPu := Lib.hid (hB.push (i := m) ok.fits hky)
            rw [hyx] at HSk HPu
            have HBm := Lib.hid hB; have HRow := Lib.hid hrow; have HBl2 := Lib.hid hbl; have HKy := Lib.hid hky
            clear hyx hB hrow hbl
            generalize hzz : (succ g x).getD m 0 = z at *
            clear hzz
            by_cases hzb : (z : Int) = but
            · have hne : ((z : Int) != but) = false := by simpa using hzb
              have HZB := Lib.hid hzb; clear hzb
              have HOw2 := Lib.hid hown; clear hown
              go_wp2_with fail
              go_roundw
              case rel => exact ⟨m + 1, ys, T, by go_num, by omega, HKy.out, HYX.out, HSk.out (fun c => absurd HZB.out c), HOw2.out, HRow.out, HBl2.out⟩
              case measure => simp [intOf]; omega
            · have hne : ((z : Int) != but) = true := by simpa using hzb
              have HZB := Lib.hid hzb; clear hzb
              cases hT : T z
              · rw [hT] at hc2
                have HT := Lib.hid hT; clear hT
                have hown1 := ownsRow_setCell_below hown (a := ⟨q, z, none⟩) (by show q < q + 1; omega) (.bool true)
                have hrow1 := HRow.out.mark z
                have hbl1 : Below w.heap.size w (wr.setCell ⟨q, z, none⟩ (.bool true)) := HBl2.out.setCell (by show w.heap.size ≤ q; rw [HQ.out]; exact Nat.le_refl _) _
                have HR1 := Lib.hid hrow1; have HBl1 := Lib.hid hbl1; have HO1 := Lib.hid hown1
                have hqlt : q < wr.heap.size := HRow.out.lt
                have hsz : (wr.setCell ⟨q, z, none⟩ (.bool true)).heap.size = wr.heap.size := by simp [World.setCell]
                have HSZ := Lib.hid hsz
                clear hrow1 hbl1 hown hown1 hsz
                go_wp2_with (at_builtin; refine wpList_append_own _ rfl _ _ 32 rfl (q + 1) 3 i0 (.int .i64 0) 1 8 Try.underlying32 hi hz0 hz1 hz2 rfl (by decide) _ _ _ rfl (HO1.out.alloc _) ⟨wr.heap.size, 0, none⟩ 1 1 [.int .i64 z] rfl rfl ?c1 one_int (by unfold maxLen; omega) (by omega) ?c5 ?_)
                case c1 => rw [← HSZ.out]; exact cell_one_new _ _ _
                case c5 => rw [World.size_alloc, HSZ.out]; omega
                intro v' w1 hown' hgrow _
                have hr2 := (HR1.out.alloc (.cells #[.int .i64 (z : Int)] 3)).grown hgrow (fun k hk => (HO1.out.lt k hk).1)
                have hb2 := (HBl1.out.alloc HBl1.out.size (.cells #[.int .i64 (z : Int)] 3)).grown hgrow (by rw [World.size_alloc, HSZ.out]; have := HBl2.out.size; omega) (fun k hk => by have := (HO1.out.lt k hk).1; have := HQ.out; omega)
                have HO2 := Lib.hid hown'; have HR2 := Lib.hid hr2; have HB2 := Lib.hid hb2
                clear hown' hgrow hr2 hb2
                go_wp2_with fail
                go_roundw
                case rel => exact ⟨m + 1, ys ++ [z], mark T z, by go_num, by omega, by rw [List.length_append]; have := HKy.out; omega, by rw [getD_append HKy.out]; exact HYX.out, HPu.out hml HZB.out HT.out, by rw [encN_snoc, List.length_append]; exact HO2.out, HR2.out, HB2.out⟩
                case measure => simp [intOf]; omega
              · rw [hT] at hc2
                have HT := Lib.hid hT; clear hT
                have HOw2 := Lib.hid hown; clear hown
                go_wp2_with fail
                go_roundw
                case rel => exact ⟨m + 1, ys, T, by go_num, by omega, HKy.out, HYX.out, HSk.out (fun _ => HT.out), HOw2.out, HRow.out, HBl2.out⟩
                case measure => simp [intOf]; omega
          · obtain rfl : m = (succ g x).length := by omega
            have HNx := Lib.hid (hB.next' hky hyx)
            have HOw2 := Lib.hid hown; have HRow := Lib.hid hrow; have HBl2 := Lib.hid hbl
            clear hown hrow hbl hB hyx
            go_wp2_with fail
            go_roundw
            case rel => exact ⟨k + 1, ys, T, by go_num, HNx.out, HOw2.out, HRow.out, HBl2.out⟩
            case measure => simp [intOf]; omega
      · obtain rfl : k = xs.length := by have := hB.here; omega
        have HBa := Lib.hid hB.all; have HRw := Lib.hid hrow; have HBl := Lib.hid hbl
        clear hB hown hrow hbl
        go_wp2_with fail
        go_ret
        exact ⟨q, g.length, rfl, by rw [HQ.out]; exact Nat.le_refl _, by rw [← HBa.out]; exact HRw.out, HBl.out⟩
theorem rReach_any (a : Option Addr) (cap : Nat) (g : Gr) (s : Nat) (but : Int) (w : World) (hg : GraphIn w a g) (ok : OkG g) (hs : s < g.length) :
    Calls Try.prog 48 #[.slice a g.length cap, .int .i64 s, .int .i64 but] w fun e w' => ∃ v, e = .returned v ∧ BoolSl w' v g.length (rs g but s) ∧ Below w.heap.size w w' := by
  refine (rReach_row a cap g s but w hg ok hs).mono ?_
  rintro e w' ⟨q, cap', rfl, _, hr, hb⟩
  exact ⟨_, rfl, ⟨q, cap', rfl, fun k hk => hr.cell hk⟩, hb⟩
end Go.Proofs.Ytmljmmnofhhheaa
