/- The seat's functions without a body that the machine knows. -/
import Derived.Test.YtlkglgdlnciicaaGreatDoorRA7
import Derived.Test.YtlkglgdlnciicaaGreatDoorAmEnd
open Go Go.Am Go.Proofs
namespace Go.Am.T
set_option maxRecDepth 100000
theorem names : NamesOk Tryz.prog := namesOk_of (by kernel_rfl)
theorem at260 : PrimAt Tryz.prog 260 .same := ⟨Tryz.f260, _, Tryz.func260, by kernel_rfl, by kernel_rfl, by kernel_rfl, (show _ = some _ by kernel_rfl), rfl⟩
theorem at261 : PrimAt Tryz.prog 261 (.makeNoZero 5) := ⟨Tryz.f261, _, Tryz.func261, by kernel_rfl, by kernel_rfl, by kernel_rfl, (show _ = some _ by kernel_rfl), Tryz.f261.params, 147, rfl, Tryz.underlying147⟩
theorem at472 : PrimAt Tryz.prog 472 .add64 := ⟨Tryz.f472, _, Tryz.func472, by kernel_rfl, by kernel_rfl, by kernel_rfl, (show _ = some _ by kernel_rfl), rfl⟩
theorem at474 : PrimAt Tryz.prog 474 .sub64 := ⟨Tryz.f474, _, Tryz.func474, by kernel_rfl, by kernel_rfl, by kernel_rfl, (show _ = some _ by kernel_rfl), rfl⟩
theorem draws : DrawOk Tryz.prog := drawOk (by kernel_rfl)
theorem prims0At (f : FuncId) (p : Prim) (h : prim0 f = some p) : PrimAt Tryz.prog f p := by
  unfold prim0 at h
  split at h
  · rename_i e; have := Nat.eq_of_beq_eq_true e; subst this; injection h with h; subst h; exact at260
  · split at h
    · rename_i e; have := Nat.eq_of_beq_eq_true e; subst this; injection h with h; subst h; exact at261
    · split at h
      · rename_i e; have := Nat.eq_of_beq_eq_true e; subst this; injection h with h; subst h; exact at472
      · split at h
        · rename_i e; have := Nat.eq_of_beq_eq_true e; subst this; injection h with h; subst h; exact at474
        · cases h
theorem prims0 : PrimsOk Tryz.prog prim0 := primsOk names prims0At
end Go.Am.T
