/- Proved: PickExecutes returns true for whatever input, in whatever memory, and its arguments read as before. No condition. -/
import Derived.Test.YtoldgjieplblpaaGreatRows
import Derived.Test.YtoldgjieplblpaaGreatChecked
import Derived.Test.YtoldgjieplblpaaGreatG
import Derived.ProofKit
import Derived.OpenShut
import Derived.Deep.DeepHandedRow
import Derived.Lib.LaidTab
import Derived.Test.YtoldgjieplblpaaGreatNO
import Derived.Test.YtoldgjieplblpaaGreatQB
import Derived.Test.YtoldgjieplblpaaGreatP3
namespace Go.Proofs.YtoldgjieplblpaaGreat
open Go.ChangeShapes Go.WideShapes Go.ChangeAt Go.RowKit PK

theorem seatOwn : ownKnob Tryz.prog.godebug = none := by kernel_rfl
theorem seatLaidOut : laidOutB Tryz.prog = true := by kernel_rfl
namespace fnExecutes
set_option maxRecDepth 100000 in
theorem contract (H : Type) (enc : TypeId × Value → H) (W : World) (base : Nat) (args : Array Value) (ds gs : List (DataW H)) (before : List MemPlace)
    (hval : ∀ (j : Nat) t v, Tryz.f3.params[j]? = some t → args[j]? = some v → Value.okWide Tryz.prog W .any base t v)
    (hW : DataW.Whole enc Tryz.prog Tryz.f3.params.toList Rows.pickExecutesSpec.vars false W args.toList ds gs before)
    :
    Calls Tryz.prog 3 args W fun e W' => ∃ v, e = .returned v ∧ Rows.pickExecutesSpec.post enc Tryz.prog Tryz.f3 false true false false W args v W' := by
  have hW' := hW
  obtain ⟨p, q, hA0, hV, rfl, hfz, hnd⟩ := hW
  have hA : DataW.TrodAll enc Tryz.prog W 0 (fun _ => true) true Tryz.f3.params.toList args.toList ds p := hA0
  rw [Tryz.params3] at hA hval
  obtain ⟨v0, vs0, d0, ds0, p0, q0, hargs, rfl, rfl, h0, r0⟩ := trodAll_cons hA
  obtain ⟨v1, vs1, d1, ds1, p1, q1, rfl, rfl, rfl, h1, r1⟩ := trodAll_cons r0
  obtain ⟨v2, vs2, d2, ds2, p2, q2, rfl, rfl, rfl, h2, r2⟩ := trodAll_cons r1
  obtain ⟨rfl, rfl, rfl⟩ := trodAll_nil r2
  obtain rfl : args = #[v0, v1, v2] := by cases args; simp_all
  obtain ⟨rfl, rfl⟩ := trodVars_none hV
  obtain ⟨regs, bl, cap, ls, rfl, hin0, hl0, hm0, him0⟩ := open_prog (hval 0 24 v0 rfl rfl) h0
  obtain ⟨ff1, h1x⟩ := h1; rw [mem_one (hval 1 25 v1 rfl rfl)] at h1x; obtain ⟨ma, mcap, mem, rfl, hnil1, hmem1, hlm1, hmb1⟩ := open_mem h1x
  obtain ⟨most, rfl, _, _, _⟩ := open_int Tryz.underlying3 (hval 2 3 v2 rfl rfl) h2
  refine (pickExecutes_any regs ls bl cap ma mcap mem most W hin0 hl0 hm0 (fun k i _ _ => him0 k i) hmem1 hnil1 hmb1).mono fun e W' ⟨he, hg⟩ => ?_
  subst he
  exact ⟨_, rfl, law_post seatLaidOut (by kernel_rfl) rfl Tryz.underlying4 (by kernel_rfl) hW' rfl hg⟩

theorem reads (os : Os) {H : Type} (enc : TypeId × Value → H) : ∃ places, DataW.whole enc Tryz.prog ((World.holding Tryz.prog os ⟨#[], #[], []⟩).forCall (fun _ _ => 0) ⟨#[], #[.agg #[.int .i64 0, .slice none 0 0], .slice none 0 0, .int .i64 0], []⟩).memory Tryz.f3.params.toList Rows.pickExecutesSpec.vars false (#[.agg #[.int .i64 0, .slice none 0 0], .slice none 0 0, .int .i64 0] : Array Value).toList 8 = some ([.agg [.lit (.int .i64 0), .nil], .nil, .lit (.int .i64 0)], [], places) :=
  ⟨[], by kernel_rfl⟩

set_option maxRecDepth 100000 in
theorem lifted (os : Os) (started : os.Started) (H : Type) (enc : TypeId × Value → H) (F : Stop.Interp) :
    ReturnsInHanded {} Tryz.checked os 3 .any ((OpenSpec.ofChange Rows.pickExecutesSpec).preRow enc Tryz.prog Tryz.f3 Rows.pickExecutesRow.domain false Rows.pickExecutesRow.laid) (((OpenSpec.ofChange Rows.pickExecutesSpec).at F).post enc Tryz.prog Tryz.f3 false true false false) := by
  obtain ⟨places, hx⟩ := reads os enc
  refine returnsInHanded_of_row (C := Tryz.checked) (s := (OpenSpec.ofChange Rows.pickExecutesSpec)) seatOwn started (by kernel_rfl) Tryz.func3
    (witness_row_at (enc := enc) (C := Tryz.checked) false (World.holding Tryz.prog os ⟨#[], #[], []⟩) #[.agg #[.int .i64 0, .slice none 0 0], .slice none 0 0, .int .i64 0] rfl (by kernel_rfl) (by kernel_rfl) (by kernel_rfl)
      (OpenSpec.preRow_of_cond 8 hx (by kernel_rfl) (fun k hk => by cases hk) (by kernel_rfl) (laidMet_nil _ _))) ?_
  intro W base args ds gs before hval hW _ _ _ _ _ _
  exact contract H enc W base args ds gs before hval hW
theorem said : Rows.PickExecutesSaid :=
  OpenClaim.holds_of_cond 3 Tryz.f3 rfl rfl rfl rfl rfl rfl rfl ⟨rfl, rfl, rfl, rfl, rfl⟩ rfl rfl rfl rfl rfl (by kernel_rfl) Tryz.func3 (by kernel_rfl)
    (of_decide_eq_true (by kernel_rfl)) (by unfold Func.isWrapper; first | (rw [if_pos (by decide +kernel)]; kernel_rfl) | (rw [if_neg (by decide +kernel)]; exact ⟨rfl, rfl⟩))
    (fun os started H enc _ F => by rw [OpenClaim.pre_eq_preRow]; exact lifted os started H enc F)
end fnExecutes
#print axioms fnExecutes.said
end Go.Proofs.YtoldgjieplblpaaGreat
