/- A run that the kernel makes. -/
import Derived.Test.YtlkglgdlnciicaaGreatDoorRD
open Go Go.Am Go.Proofs
namespace Go.Am.T
set_option maxRecDepth 1000000 in
theorem run10 : callD Tryz.prog prim0 100 10 [] .L .xH (fun v _ _ => Go.Am.isTrue v) = true := by kernel_rfl
end Go.Am.T
