/- The program starts no goroutine. -/
import Derived.Test.YtlkglgdlnciicaaGreatDoorProg
import GoSem.ClaimGoes
import Derived.KernelRfl
namespace Go.Proofs.YtlkglgdlnciicaaGreatDoor
open Go
theorem goes_of_none {P : Program} (h : P.funcs.any Func.goes = false) (f : FuncId) : P.goes f = false := by
  have h2 : ((P.closure f).any fun g => (P.funcs[g]?).any Func.goes) = false := by
    rw [List.any_eq_false]
    intro g _
    cases hg : P.funcs[g]? with
    | none => simp
    | some fn =>
      obtain ⟨hlt, he⟩ := Array.getElem?_eq_some_iff.1 hg
      have := (Array.any_eq_false.1 h) g hlt
      rw [he] at this
      simpa using this
  unfold Program.goes
  rw [h, h2]
  simp
theorem goesBy_of_none {P : Program} (h : P.funcs.any Func.goes = false) {c : OpenClaim} (hs : c.start = .entering) : false = c.goesBy P := by
  unfold OpenClaim.goesBy Program.goesAt Program.goesFrom
  rw [hs]
  cases P.funcNamed c.func with
  | none => rfl
  | some f => simp [goes_of_none h]
set_option maxRecDepth 100000 in
theorem noGo : Tryz.prog.funcs.any Func.goes = false := by kernel_rfl
end Go.Proofs.YtlkglgdlnciicaaGreatDoor
