/- Proved: LoopEnds returns true for every count and number, in whatever memory, and its arguments read as before. Conditions: the library's table of trailing zeros is laid as its initialiser lays it, which the card ties to the program's text. -/
import Derived.Test.YtodkfjdifchibaaDoorC2
import Derived.Test.YtodkfjdifchibaaDoorL7
namespace Go.Proofs.YtodkfjdifchibaaDoor
open Go.ChangeShapes Go.WideShapes Go.ChangeAt Go.RowKit

theorem cellsCnt4 : Tryd.prog.cellsOf 24 = 5 := by kernel_rfl
namespace fnEnds
theorem contract (H : Type) (enc : TypeId × Value → H) (W : World) (base : Nat) (args : Array Value) (ds gs : List (DataW H)) (before : List MemPlace)
    (hval : ∀ (j : Nat) t v, Tryd.f4.params[j]? = some t → args[j]? = some v → Value.okWide Tryd.prog W .any base t v)
    (hW : DataW.Whole enc Tryd.prog Tryd.f4.params.toList Rows.loopEndsSpec.vars false W args.toList ds gs before) (hL : laidMetH Tryd.prog Rows.loopEndsRow.laid W)
    :
    Calls Tryd.prog 4 args W fun e W' => ∃ v, e = .returned v ∧ Rows.loopEndsSpec.post enc Tryd.prog Tryd.f4 false true false false W args v W' := by
  have hW' := hW
  obtain ⟨p, q, hA0, hV, rfl, hfz, hnd⟩ := hW
  have hA : DataW.TrodAll enc Tryd.prog W 0 (fun _ => true) true Tryd.f4.params.toList args.toList ds p := hA0
  rw [Tryd.params4] at hA hval
  obtain ⟨v0, vs0, d0, ds0, p0, q0, hargs, rfl, rfl, h0, r0⟩ := trodAll_cons hA
  obtain ⟨v1, vs1, d1, ds1, p1, q1, rfl, rfl, rfl, h1, r1⟩ := trodAll_cons r0
  obtain ⟨rfl, rfl, rfl⟩ := trodAll_nil r1
  obtain rfl : args = #[v0, v1] := by cases args; simp_all
  obtain ⟨rfl, rfl⟩ := trodVars_none hV
  obtain ⟨c0, c1, c2, c3, c4, y0, y1, y2, y3, y4, m, rfl, hd, hpl, z0, z1, z2, z3, z4⟩ := open_agg5 Tryd.underlying24 (by kernel_rfl) cellsCnt4 (hval 0 24 v0 rfl rfl) h0
  obtain ⟨x0, e0, _, _⟩ := DataW.trod_int Tryd.underlying3 z0
  obtain ⟨x1, e1, _, _⟩ := DataW.trod_int Tryd.underlying3 z1
  obtain ⟨x2, e2, _, g2⟩ := DataW.trod_int Tryd.underlying22 z2
  obtain ⟨x3, e3, _, g3⟩ := DataW.trod_int Tryd.underlying22 z3
  obtain ⟨x4, e4, _, g4⟩ := DataW.trod_int Tryd.underlying22 z4
  simp only [List.cons.injEq, and_true] at e0 e1 e2 e3 e4
  subst e0 e1 e2 e3 e4
  obtain ⟨k, rfl, hdk, hpk, wk⟩ := open_int Tryd.underlying3 (hval 1 3 v1 rfl rfl) h1
  refine (ends_any x0 x1 x2 x3 x4 k W (tab_of hL) (words3 (word_of_wf g2).1 (word_of_wf g2).2 (word_of_wf g3).1 (word_of_wf g3).2 (word_of_wf g4).1 (word_of_wf g4).2)).mono fun e W' ⟨he, hg⟩ => ?_
  subst he
  exact ⟨_, rfl, law_post seatLaidOut (by kernel_rfl) rfl Tryd.underlying4 (by kernel_rfl) hW' rfl hg⟩

theorem laid_met (os : Os) : laidMet Tryd.prog Rows.loopEndsRow.laid ((laidWorld os).forCall (fun _ _ => 0) ⟨#[], #[.agg #[.int .i64 0, .int .i64 0, .int .u32 0, .int .u32 0, .int .u32 0], .int .i64 0], []⟩).memory :=
  laidMet_of_run' 8 (by kernel_rfl) (by kernel_rfl)
theorem reads (os : Os) {H : Type} (enc : TypeId × Value → H) : ∃ places, DataW.whole enc Tryd.prog ((laidWorld os).forCall (fun _ _ => 0) ⟨#[], #[.agg #[.int .i64 0, .int .i64 0, .int .u32 0, .int .u32 0, .int .u32 0], .int .i64 0], []⟩).memory Tryd.f4.params.toList Rows.loopEndsSpec.vars false (#[.agg #[.int .i64 0, .int .i64 0, .int .u32 0, .int .u32 0, .int .u32 0], .int .i64 0] : Array Value).toList 8 = some ([.agg [.lit (.int .i64 0), .lit (.int .i64 0), .lit (.int .u32 0), .lit (.int .u32 0), .lit (.int .u32 0)], .lit (.int .i64 0)], [], places) :=
  ⟨[], by kernel_rfl⟩

set_option maxRecDepth 100000 in
theorem lifted (os : Os) (started : os.Started) (H : Type) (enc : TypeId × Value → H) (F : Stop.Interp) :
    ReturnsInHanded {} Tryd.checked os 4 .any ((OpenSpec.ofChange Rows.loopEndsSpec).preRow enc Tryd.prog Tryd.f4 Rows.loopEndsRow.domain false Rows.loopEndsRow.laid) (((OpenSpec.ofChange Rows.loopEndsSpec).at F).post enc Tryd.prog Tryd.f4 false true false false) := by
  obtain ⟨places, hx⟩ := reads os enc
  refine returnsInHanded_of_row (C := Tryd.checked) (s := (OpenSpec.ofChange Rows.loopEndsSpec)) seatOwn started (by kernel_rfl) Tryd.func4
    (witness_row_at (enc := enc) (C := Tryd.checked) false (laidWorld os) #[.agg #[.int .i64 0, .int .i64 0, .int .u32 0, .int .u32 0, .int .u32 0], .int .i64 0] rfl (by kernel_rfl) (by kernel_rfl) (by kernel_rfl)
      (OpenSpec.preRow_of_cond 8 hx (by kernel_rfl) (fun k hk => by cases hk) (by kernel_rfl) (laid_met os))) ?_
  intro W base args ds gs before hval hW _ _ _ hL _ _
  exact contract H enc W base args ds gs before hval hW hL
theorem said : Rows.LoopEndsSaid :=
  OpenClaim.holds_of_cond 4 Tryd.f4 rfl rfl rfl rfl rfl rfl rfl ⟨rfl, rfl, rfl, rfl, rfl⟩ rfl rfl rfl rfl rfl (by kernel_rfl) Tryd.func4 (by kernel_rfl)
    (of_decide_eq_true (by kernel_rfl)) (by unfold Func.isWrapper; first | (rw [if_pos (by decide +kernel)]; kernel_rfl) | (rw [if_neg (by decide +kernel)]; exact ⟨rfl, rfl⟩))
    (fun os started H enc _ F => by rw [OpenClaim.pre_eq_preRow]; exact lifted os started H enc F)
theorem plain (f : FuncId) (fn : Func) (hf : Tryd.pinned.checked.prog.funcNamed "backstay/backstaylaw16.LoopEnds" = some f) (hfn : Tryd.pinned.checked.prog.funcs[f]? = some fn) :
    false = Tryd.pinned.checked.prog.looks [] ∧ ∀ (j : Nat) t, fn.params[j]? = some t → Tryd.pinned.checked.prog.wantsStandIn t = false := by
  obtain rfl : f = 4 := Option.some.inj ((show Tryd.prog.funcNamed "backstay/backstaylaw16.LoopEnds" = some 4 by kernel_rfl).symm.trans hf) |>.symm
  obtain rfl : fn = Tryd.f4 := (Option.some.inj (Tryd.func4.symm.trans hfn)).symm
  refine ⟨by kernel_rfl, fun j t ht => ?_⟩
  have hall : Tryd.f4.params.all (fun t => Tryd.prog.wantsStandIn t == false) = true := by kernel_rfl
  rw [Array.all_eq_true'] at hall
  exact eq_of_beq (hall t (Array.mem_of_getElem? ht))
theorem card : Rows.LoopEndsCardSaid :=
  Claim7.holds_tied_plain_at .later [] _ _ _ _ said (fun _ h => by cases h) (by kernel_rfl) (fun _ h => by cases h) loopEnds_row_tie rfl ⟨rfl, rfl⟩ (by kernel_rfl) rfl plain (by kernel_rfl)
end fnEnds
#print axioms fnEnds.card
end Go.Proofs.YtodkfjdifchibaaDoor
