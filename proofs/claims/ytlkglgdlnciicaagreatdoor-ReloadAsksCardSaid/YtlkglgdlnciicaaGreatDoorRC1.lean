/- law 31's question ReloadAsks answers true, whatever the two answers it is asked about; and they read as they did. Conditions: those of the row as it stands (its listed tables read as the program's text lays them). -/
import Derived.Test.YtlkglgdlnciicaaGreatDoorRA10
import Derived.Test.YtlkglgdlnciicaaGreatDoorRG
import Derived.Test.YtlkglgdlnciicaaGreatDoorCards
import Derived.Test.YtlkglgdlnciicaaGreatDoorTie
import Derived.SevenTiedAt
namespace Go.Proofs.YtlkglgdlnciicaaGreatDoor
open Go
theorem reloadAsks_card : Rows.ReloadAsksCardSaid :=
  Claim7.holds_tied_plain_at .later [] [.data, .data, .data] true (true, "fe3c0af9f41b36bf2a2958175fbe17cd88b24f96b46dad54b74c8bc22d3d386f") true
    reloadAsks_holds (fun _ h => by cases h) (by kernel_rfl) (fun _ h => by cases h) reloadAsks_row_tie rfl ⟨rfl, rfl⟩ (by kernel_rfl) rfl
    (fun f fn hf hfn => by
      obtain rfl : f = 3 := Option.some.inj ((show Tryz.prog.funcNamed "retrofit/retrofitlaw31.ReloadAsks" = some 3 by kernel_rfl).symm.trans hf) |>.symm
      obtain rfl : fn = Tryz.f3 := (Option.some.inj (Tryz.func3.symm.trans hfn)).symm
      exact ⟨by kernel_rfl, fun j t ht => by
        rw [Tryz.params3] at ht
        have h31 : t = 31 := by
          rcases j with _ | _ | j
          · simpa using ht.symm
          · simpa using ht.symm
          · simp at ht
        subst h31
        exact (show Tryz.prog.wantsStandIn 31 = false by kernel_rfl)⟩)
    (goesBy_of_none noGo rfl)
#print axioms reloadAsks_card
end Go.Proofs.YtlkglgdlnciicaaGreatDoor
