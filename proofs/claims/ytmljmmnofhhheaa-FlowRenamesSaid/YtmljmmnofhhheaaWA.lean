/- Walks of the errors of reached nodes; of what is reached, before, and dominated. -/
import Derived.Test.YtmljmmnofhhheaaW9
namespace Go.Proofs.Ytmljmmnofhhheaa
open Go.RowKit

theorem notSeen_any (x : Int) (q : Nat) (S : NSet) (w : World) (hT : Ten w q S) (h0 : 0 ≤ x) (h1 : x < 10) :
    Calls Try.prog 78 #[.int .i64 x, .pointer (some ⟨q, 0, none⟩)] w fun e w' => e = .returned (.bool (!(S x.toNat))) ∧ Below w.heap.size w w' := by
  obtain ⟨x, rfl⟩ := Int.eq_ofNat_of_zero_le h0
  rw [Int.toNat_natCast]
  have hc := hT.cell (k := x) (by omega)
  clear hT
  go_enter Try.func78, Try.ntmps78
  go_wp2_with fail
  go_ret
  exact ⟨rfl, Below.refl _ _⟩

set_option maxRecDepth 100000 in
set_option maxHeartbeats 1000000 in
theorem reachedNodes_any (g : List (List Int)) (a : Option Addr) (cap : Nat) (l : List Int) (al : Option Addr) (cl : Nat) (w : World) (hin : RowsIn w a g) (hs : Short g) (hl : IntsIn w al l) (hl1 : l.length ≤ 1000) :
    Calls Try.prog 64 #[.slice a g.length cap, .slice al l.length cl] w fun e w' => e = .returned (.int .i64 (thereE g l)) ∧ Below w.heap.size w w' := by
  have HN := Lib.hid (noded_any g a cap l al cl w hin hs hl hl1)
  by_cases hv : nodeE g l = 0
  · have hn : thereE g l = if l.any (fun x => !(rs (gN g) (-1) 0 x.toNat)) then 9 else 0 := by unfold thereE; rw [if_pos hv]
    have hval := node_valid hv
    rw [hn]; rw [hv] at HN
    clear hn hv
    have ok := valid_ok hval.1
    have h10 := ok.ten
    rw [gN_len] at h10
    have HR : Hid (∀ w', Below w.heap.size w w' → Calls Try.prog 44 #[.slice a g.length cap, .int .i64 (-1)] w' fun e w'' => e = .returned (tenV (rs (gN g) (-1) 0)) ∧ Below w'.heap.size w' w'') := Lib.hid fun w' hb => by
      have := reach_any a cap (gN g) (-1) w' ((hin.graph hval.1).below hb) ok
      rwa [gN_len] at this
    have HC : Hid (∀ w' q, Below w.heap.size w w' → Ten w' q (rs (gN g) (-1) 0) → Calls Try.prog 61 #[.slice al l.length cl, .func (.func 78) #[] #[.pointer (some ⟨q, 0, none⟩)]] w' fun e w'' => e = .returned (.bool (l.any (fun x => !(rs (gN g) (-1) 0 x.toNat)))) ∧ Below w'.heap.size w' w'') := Lib.hid fun w' q hb hT =>
      con_reached ⟨q, 0, none⟩ l al cl (fun x => !(rs (gN g) (-1) 0 x.toNat)) w' (hl.below hb) hl1 (fun j hj w'' hb2 => by
        have := hval.2 _ (getD_mem_any 0 hj)
        exact notSeen_any _ q _ w'' (hT.below hb2) this.1 (by omega))
    clear hin hs hl hval ok
    generalize hS : rs (gN g) (-1) 0 = S at *
    clear hS
    generalize l.any (fun x => !(S x.toNat)) = B at *
    cases B
    all_goals
      go_enter Try.func64, Try.ntmps64
      go_wp2_with fail
      refine HN.out.mono ?_; rintro e w1 ⟨rfl, hb1⟩
      go_wp2_with fail
      refine (HR.out _ hb1).mono ?_; rintro e w2 ⟨rfl, hb2⟩
      have HB2 := Lib.hid (hb1.trans (hb2.mono hb1.size)); clear hb1 hb2
      unfold tenV bools
      go_wp2_with fail
      refine (HC.out _ w2.heap.size (HB2.out.alloc HB2.out.size _) (heap_at _ _ _ rfl)).mono ?_; rintro e w3 ⟨rfl, hb3⟩
      go_wp2_with fail
      go_ret
      exact ⟨rfl, (HB2.out.alloc HB2.out.size _).trans (hb3.mono (by have := HB2.out.size; simp; omega))⟩
  · have hn : thereE g l = nodeE g l := by unfold thereE; rw [if_neg hv]
    rw [hn]
    clear hn
    generalize nodeE g l = V at *
    have hvb : (V != 0) = true := by simpa using hv
    clear hv
    go_enter Try.func64, Try.ntmps64
    go_wp2_with fail
    refine HN.out.mono ?_; rintro e w1 ⟨rfl, hb1⟩
    go_wp2_with fail
    go_ret
    exact ⟨rfl, hb1⟩

set_option maxRecDepth 100000 in
set_option maxHeartbeats 1000000 in
theorem rThere_any (g : List (List Int)) (a : Option Addr) (cap : Nat) (l : List Int) (al : Option Addr) (cl : Nat) (w : World) (hin : RowsIn w a g) (hs : Short g) (hl : IntsIn w al l) (hl1 : l.length ≤ 1000) :
    Calls Try.prog 65 #[.slice a g.length cap, .slice al l.length cl] w fun e w' => e = .returned (.int .i64 (thereE g l)) ∧ Below w.heap.size w w' := by
  have HN := Lib.hid (rNode_any g a cap l al cl w hin hs hl hl1)
  by_cases hv : nodeE g l = 0
  · have hn : thereE g l = if l.any (fun x => !(rs (gN g) (-1) 0 x.toNat)) then 9 else 0 := by unfold thereE; rw [if_pos hv]
    have hval := node_valid hv
    rw [hn]; rw [hv] at HN
    clear hn hv
    have ok := valid_ok hval.1
    have hpos := ok.pos
    have HR : Hid (Calls Try.prog 48 #[.slice a g.length cap, .int .i64 0, .int .i64 (-1)] w fun e w'' => ∃ v, e = .returned v ∧ BoolSl w'' v g.length (rs (gN g) (-1) 0) ∧ Below w.heap.size w w'') := Lib.hid (by
      have := rReach_any a cap (gN g) 0 (-1) w (hin.graph hval.1) ok hpos
      rwa [gN_len] at this)
    have HL := Lib.hid hl
    have HVal := Lib.hid hval.2
    clear hin hs hl hval ok hpos
    generalize hS : rs (gN g) (-1) 0 = S at *
    clear hS
    have hF : NoneYet l (fun x => !(S x.toNat)) l.length → (if l.any (fun x => !(S x.toNat)) then (9 : Int) else 0) = 0 := fun h => by rw [h.fin]; rfl
    have hT : ∀ k, k < l.length → S (l.getD k 0).toNat = false → (if l.any (fun x => !(S x.toNat)) then (9 : Int) else 0) = 9 := fun k hk h => by rw [any_here (d := 0) (p := fun x : Int => !(S x.toNat)) hk (by rw [h]; rfl)]; rfl
    have HF := Lib.hid hF; have HT := Lib.hid hT; clear hF hT
    generalize (if l.any (fun x => !(S x.toNat)) then (9 : Int) else 0) = V at *
    go_enter Try.func65, Try.ntmps65
    go_wp2_with fail
    refine HN.out.mono ?_; rintro e w1 ⟨rfl, rfl⟩
    go_wp2_with fail
    refine HR.out.mono ?_; rintro e w2 ⟨v, rfl, ⟨q, rcap, rfl, hbs⟩, hb2⟩
    have HBS := Lib.hid hbs; have HB2 := Lib.hid hb2; clear hbs hb2
    go_wp2_with fail
    go_loop [7] (fun i => ∃ k : Nat, k ≤ l.length ∧ i = .int .i64 k ∧ NoneYet l (fun x => !(S x.toNat)) k) (fun i => l.length - (intOf i).toNat)
    case atStart => exact ⟨0, Nat.zero_le _, rfl, NoneYet.zero⟩
    case round =>
      obtain ⟨k, hk, rfl, hny⟩ := hrel
      by_cases hlt : k < l.length
      · obtain ⟨b, off, rfl, hx⟩ := HL.out.below HB2.out k hlt
        have hr := HVal.out _ (getD_mem_any 0 hlt)
        have HN2 := Lib.hid hny; clear hny
        generalize hxx : l.getD k 0 = x at *
        have HX := Lib.hid hxx; clear hxx
        obtain ⟨x, rfl⟩ := Int.eq_ofNat_of_zero_le hr.1
        have hxn : x < g.length := by have := hr.2; omega
        have hc := HBS.out x hxn
        clear hr
        cases hSx : S x
        · rw [hSx] at hc
          have HS := Lib.hid hSx; clear hSx
          go_wp2_with fail
          go_ret
          exact ⟨ret_int (HT.out k hlt (by rw [HX.out]; exact HS.out)).symm, HB2.out⟩
        · rw [hSx] at hc
          have HS := Lib.hid hSx; clear hSx
          go_wp2_with fail
          go_round
          case rel => exact ⟨k + 1, by omega, by go_num, HN2.out.next (d := 0) hlt (by rw [HX.out]; show (!(S x)) = false; rw [HS.out]; rfl)⟩
          case measure => simp [intOf]; omega
      · obtain rfl : k = l.length := by omega
        have HN2 := Lib.hid hny; clear hny
        go_wp2_with fail
        go_ret
        exact ⟨ret_int (HF.out HN2.out).symm, HB2.out⟩
  · have hn : thereE g l = nodeE g l := by unfold thereE; rw [if_neg hv]
    rw [hn]
    clear hn
    generalize nodeE g l = V at *
    have hvb : (V != 0) = true := by simpa using hv
    clear hv
    go_enter Try.func65, Try.ntmps65
    go_wp2_with fail
    refine HN.out.mono ?_; rintro e w1 ⟨rfl, rfl⟩
    go_wp2_with fail
    go_ret
    exact ⟨rfl, Below.refl _ _⟩
end Go.Proofs.Ytmljmmnofhhheaa
