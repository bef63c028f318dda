/- Proved: PickLives returns true for whatever input, in whatever memory, and its arguments read as before. No condition. -/
import Derived.Test.YtoldgjieplblpaaGreatRows
import Derived.Test.YtoldgjieplblpaaGreatChecked
import Derived.Test.YtoldgjieplblpaaGreatG
import Derived.ProofKit
import Derived.OpenShut
import Derived.Deep.DeepHandedRow
import Derived.Lib.LaidTab
import Derived.Test.YtoldgjieplblpaaGreatNO
import Derived.Test.YtoldgjieplblpaaGreatP4
namespace Go.Proofs.YtoldgjieplblpaaGreat
open Go.ChangeShapes Go.WideShapes Go.ChangeAt Go.RowKit PK

theorem seatOwn : ownKnob Tryz.prog.godebug = none := by kernel_rfl
theorem seatLaidOut : laidOutB Tryz.prog = true := by kernel_rfl
namespace fnLives
set_option maxRecDepth 100000 in
theorem contract (H : Type) (enc : TypeId × Value → H) (W : World) (base : Nat) (args : Array Value) (ds gs : List (DataW H)) (before : List MemPlace)
    (hval : ∀ (j : Nat) t v, Tryz.f9.params[j]? = some t → args[j]? = some v → Value.okWide Tryz.prog W .any base t v)
    (hW : DataW.Whole enc Tryz.prog Tryz.f9.params.toList Rows.pickLivesSpec.vars false W args.toList ds gs before)
    :
    Calls Tryz.prog 9 args W fun e W' => ∃ v, e = .returned v ∧ Rows.pickLivesSpec.post enc Tryz.prog Tryz.f9 false true false false W args v W' := by
  have hW' := hW
  obtain ⟨p, q, hA0, hV, rfl, hfz, hnd⟩ := hW
  have hA : DataW.TrodAll enc Tryz.prog W 0 (fun _ => true) true Tryz.f9.params.toList args.toList ds p := hA0
  rw [Tryz.params9] at hA hval
  obtain ⟨v0, vs0, d0, ds0, p0, q0, hargs, rfl, rfl, h0, r0⟩ := trodAll_cons hA
  obtain ⟨rfl, rfl, rfl⟩ := trodAll_nil r0
  obtain rfl : args = #[v0] := by cases args; simp_all
  obtain ⟨rfl, rfl⟩ := trodVars_none hV
  obtain ⟨regs, bl, cap, ls, rfl, hin0, hl0, hm0, him0⟩ := open_prog (hval 0 24 v0 rfl rfl) h0
  refine (pickLives_any regs ls bl cap W hin0 hl0 hm0).mono fun e W' ⟨he, hg⟩ => ?_
  subst he
  exact ⟨_, rfl, law_post seatLaidOut (by kernel_rfl) rfl Tryz.underlying4 (by kernel_rfl) hW' rfl hg⟩

theorem reads (os : Os) {H : Type} (enc : TypeId × Value → H) : ∃ places, DataW.whole enc Tryz.prog ((World.holding Tryz.prog os ⟨#[], #[], []⟩).forCall (fun _ _ => 0) ⟨#[], #[.agg #[.int .i64 0, .slice none 0 0]], []⟩).memory Tryz.f9.params.toList Rows.pickLivesSpec.vars false (#[.agg #[.int .i64 0, .slice none 0 0]] : Array Value).toList 8 = some ([.agg [.lit (.int .i64 0), .nil]], [], places) :=
  ⟨[], by kernel_rfl⟩

set_option maxRecDepth 100000 in
theorem lifted (os : Os) (started : os.Started) (H : Type) (enc : TypeId × Value → H) (F : Stop.Interp) :
    ReturnsInHanded {} Tryz.checked os 9 .any ((OpenSpec.ofChange Rows.pickLivesSpec).preRow enc Tryz.prog Tryz.f9 Rows.pickLivesRow.domain false Rows.pickLivesRow.laid) (((OpenSpec.ofChange Rows.pickLivesSpec).at F).post enc Tryz.prog Tryz.f9 false true false false) := by
  obtain ⟨places, hx⟩ := reads os enc
  refine returnsInHanded_of_row (C := Tryz.checked) (s := (OpenSpec.ofChange Rows.pickLivesSpec)) seatOwn started (by kernel_rfl) Tryz.func9
    (witness_row_at (enc := enc) (C := Tryz.checked) false (World.holding Tryz.prog os ⟨#[], #[], []⟩) #[.agg #[.int .i64 0, .slice none 0 0]] rfl (by kernel_rfl) (by kernel_rfl) (by kernel_rfl)
      (OpenSpec.preRow_of_cond 8 hx (by kernel_rfl) (fun k hk => by cases hk) (by kernel_rfl) (laidMet_nil _ _))) ?_
  intro W base args ds gs before hval hW _ _ _ _ _ _
  exact contract H enc W base args ds gs before hval hW
theorem said : Rows.PickLivesSaid :=
  OpenClaim.holds_of_cond 9 Tryz.f9 rfl rfl rfl rfl rfl rfl rfl ⟨rfl, rfl, rfl, rfl, rfl⟩ rfl rfl rfl rfl rfl (by kernel_rfl) Tryz.func9 (by kernel_rfl)
    (of_decide_eq_true (by kernel_rfl)) (by unfold Func.isWrapper; first | (rw [if_pos (by decide +kernel)]; kernel_rfl) | (rw [if_neg (by decide +kernel)]; exact ⟨rfl, rfl⟩))
    (fun os started H enc _ F => by rw [OpenClaim.pre_eq_preRow]; exact lifted os started H enc F)
end fnLives
#print axioms fnLives.said
end Go.Proofs.YtoldgjieplblpaaGreat
