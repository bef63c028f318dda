/- The package's 'known' is true in every world: reckoned by the small machine. -/
import Derived.Test.YtoldgjieplblpaaGreatEF
import Derived.Test.YtoldgjieplblpaaGreatProg
import Derived.KernelRfl
namespace Go.Proofs.YtoldgjieplblpaaGreat.Mini

theorem no_count : ∀ (f : Nat) (fn : Func), Tryz.prog.funcs[f]? = some fn → (fn.name == "runtime.NumGoroutine") = false := by
  have h : (Tryz.prog.funcs.all fun fn => !(fn.name == "runtime.NumGoroutine")) = true := by kernel_rfl
  intro f fn hf
  have := Array.all_eq_true_iff_forall_mem.1 h fn (Array.mem_of_getElem? hf)
  simpa using this
set_option maxRecDepth 1000000 in
theorem known_reckoned : isTrue (reckon Tryz.prog noX 100000 11) = true := by kernel_rfl
theorem known_true (w : World) : Calls Tryz.prog 11 #[] w fun e w' => e = .returned (.bool true) ∧ RowKit.Below w.heap.size w w' :=
  reckon_true (noX_ok _) (by kernel_rfl) no_count known_reckoned w
end Go.Proofs.YtoldgjieplblpaaGreat.Mini
