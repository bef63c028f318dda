/- Proved: SeatAllocates returns true for whatever input, in whatever memory, and its arguments read as before. No condition. -/
import Derived.Test.YtjfpaelmcepidaaRows
import Derived.Test.YtjfpaelmcepidaaChecked
import Derived.Test.YtjfpaelmcepidaaG
import Derived.ProofKit
import Derived.OpenShut
import Derived.Deep.DeepHandedRow
import Derived.Lib.LaidTab
import Derived.Test.YtjfpaelmcepidaaNO
import Derived.Test.YtjfpaelmcepidaaE3
namespace Go.Proofs.Ytjfpaelmcepidaa
open Go.ChangeShapes Go.WideShapes Go.ChangeAt Go.RowKit PK

theorem seatOwn : ownKnob Try.prog.godebug = none := by kernel_rfl
theorem seatLaidOut : laidOutB Try.prog = true := by kernel_rfl
namespace fnAllocates
set_option maxRecDepth 100000 in
theorem contract (H : Type) (enc : TypeId × Value → H) (W : World) (base : Nat) (args : Array Value) (ds gs : List (DataW H)) (before : List MemPlace)
    (hval : ∀ (j : Nat) t v, Try.f3.params[j]? = some t → args[j]? = some v → Value.okWide Try.prog W .any base t v)
    (hW : DataW.Whole enc Try.prog Try.f3.params.toList Rows.seatAllocatesSpec.vars false W args.toList ds gs before)
    :
    Calls Try.prog 3 args W fun e W' => ∃ v, e = .returned v ∧ Rows.seatAllocatesSpec.post enc Try.prog Try.f3 false true false false W args v W' := by
  have hW' := hW
  obtain ⟨p, q, hA0, hV, rfl, hfz, hnd⟩ := hW
  have hA : DataW.TrodAll enc Try.prog W 0 (fun _ => true) true Try.f3.params.toList args.toList ds p := hA0
  rw [Try.params3] at hA hval
  obtain ⟨v0, vs0, d0, ds0, p0, q0, hargs, rfl, rfl, h0, r0⟩ := trodAll_cons hA
  obtain ⟨v1, vs1, d1, ds1, p1, q1, rfl, rfl, rfl, h1, r1⟩ := trodAll_cons r0
  obtain ⟨rfl, rfl, rfl⟩ := trodAll_nil r1
  obtain rfl : args = #[v0, v1] := by cases args; simp_all
  obtain ⟨rfl, rfl⟩ := trodVars_none hV
  obtain ⟨regs, bl, cap, ls, rfl, hin0, hl0, hm0, him0⟩ := open_prog (hval 0 24 v0 rfl rfl) h0
  obtain ⟨K, wa, wc, ws, rfl, hws, hwl, hww⟩ := open_job (hval 1 27 v1 rfl rfl) h1
  refine (seatAllocates_any regs ls bl cap K ws wa wc W hin0 hl0 hm0 him0 hws hww hwl).mono fun e W' ⟨he, hg⟩ => ?_
  subst he
  exact ⟨_, rfl, law_post seatLaidOut (by kernel_rfl) rfl Try.underlying4 (by kernel_rfl) hW' rfl hg⟩

theorem reads (os : Os) {H : Type} (enc : TypeId × Value → H) : ∃ places, DataW.whole enc Try.prog ((World.holding Try.prog os ⟨#[], #[], []⟩).forCall (fun _ _ => 0) ⟨#[], #[.agg #[.int .i64 0, .slice none 0 0], .agg #[.int .i64 0, .slice none 0 0]], []⟩).memory Try.f3.params.toList Rows.seatAllocatesSpec.vars false (#[.agg #[.int .i64 0, .slice none 0 0], .agg #[.int .i64 0, .slice none 0 0]] : Array Value).toList 8 = some ([.agg [.lit (.int .i64 0), .nil], .agg [.lit (.int .i64 0), .nil]], [], places) :=
  ⟨[], by kernel_rfl⟩

set_option maxRecDepth 100000 in
theorem lifted (os : Os) (started : os.Started) (H : Type) (enc : TypeId × Value → H) (F : Stop.Interp) :
    ReturnsInHanded {} Try.checked os 3 .any ((OpenSpec.ofChange Rows.seatAllocatesSpec).preRow enc Try.prog Try.f3 Rows.seatAllocatesRow.domain false Rows.seatAllocatesRow.laid) (((OpenSpec.ofChange Rows.seatAllocatesSpec).at F).post enc Try.prog Try.f3 false true false false) := by
  obtain ⟨places, hx⟩ := reads os enc
  refine returnsInHanded_of_row (C := Try.checked) (s := (OpenSpec.ofChange Rows.seatAllocatesSpec)) seatOwn started (by kernel_rfl) Try.func3
    (witness_row_at (enc := enc) (C := Try.checked) false (World.holding Try.prog os ⟨#[], #[], []⟩) #[.agg #[.int .i64 0, .slice none 0 0], .agg #[.int .i64 0, .slice none 0 0]] rfl (by kernel_rfl) (by kernel_rfl) (by kernel_rfl)
      (OpenSpec.preRow_of_cond 8 hx (by kernel_rfl) (fun k hk => by cases hk) (by kernel_rfl) (laidMet_nil _ _))) ?_
  intro W base args ds gs before hval hW _ _ _ _ _ _
  exact contract H enc W base args ds gs before hval hW
theorem said : Rows.SeatAllocatesSaid :=
  OpenClaim.holds_of_cond 3 Try.f3 rfl rfl rfl rfl rfl rfl rfl ⟨rfl, rfl, rfl, rfl, rfl⟩ rfl rfl rfl rfl rfl (by kernel_rfl) Try.func3 (by kernel_rfl)
    (of_decide_eq_true (by kernel_rfl)) (by unfold Func.isWrapper; first | (rw [if_pos (by decide +kernel)]; kernel_rfl) | (rw [if_neg (by decide +kernel)]; exact ⟨rfl, rfl⟩))
    (fun os started H enc _ F => by rw [OpenClaim.pre_eq_preRow]; exact lifted os started H enc F)
end fnAllocates
#print axioms fnAllocates.said
end Go.Proofs.Ytjfpaelmcepidaa
