/- The functions of this seat that the machine takes as they are. -/
import Derived.Test.YtlkglgdlnciicaaGreatDoorProg
import Derived.Test.YtlkglgdlnciicaaGreatDoorAmDef
import Derived.KernelRfl
open Go Go.Am Go.Proofs
namespace Go.Am.T
noncomputable def prim0 (f : FuncId) : Option Prim := match Nat.beq f 260 with
  | true => some .same
  | false => match Nat.beq f 261 with
    | true => some (.makeNoZero 5)
    | false => match Nat.beq f 472 with
      | true => some .add64
      | false => match Nat.beq f 474 with
        | true => some .sub64
        | false => none
noncomputable def prim (f : FuncId) : Option Prim := match Nat.beq f 5 with
  | true => some .yes
  | false => match Nat.beq f 10 with
    | true => some .yes
    | false => prim0 f
end Go.Am.T
