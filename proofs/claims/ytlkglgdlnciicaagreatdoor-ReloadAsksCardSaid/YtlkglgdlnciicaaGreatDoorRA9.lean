/- ReloadAsks: the walk's end. -/
import Derived.Test.YtlkglgdlnciicaaGreatDoorRA8
import Derived.Test.YtlkglgdlnciicaaGreatDoorRP
import Derived.Test.YtlkglgdlnciicaaGreatDoorRK5
import Derived.Test.YtlkglgdlnciicaaGreatDoorRK10
set_option linter.all false
open Go Go.Am Go.Proofs Go.RowKit
namespace Go.Am.T

theorem yes5 : Yes Tryz.prog 5 := fun w => by
  obtain ⟨c, hc⟩ := Option.isSome_iff_exists.1 (show Tryz.f5.body.isSome = true by kernel_rfl)
  exact calls_of_run draws names prims0 Tryz.func5 hc run5 w
theorem yes10 : Yes Tryz.prog 10 := fun w => by
  obtain ⟨c, hc⟩ := Option.isSome_iff_exists.1 (show Tryz.f10.body.isSome = true by kernel_rfl)
  exact calls_of_run draws names prims0 Tryz.func10 hc run10 w
theorem prims : PrimsOk Tryz.prog prim := primsOk names fun f p h => by
  unfold prim at h
  split at h
  · rename_i e
    have := Nat.eq_of_beq_eq_true e; subst this; injection h with h; subst h
    obtain ⟨c, hc⟩ := Option.isSome_iff_exists.1 (show Tryz.f5.body.isSome = true by kernel_rfl)
    exact ⟨⟨_, c, Tryz.func5, hc⟩, yes5⟩
  · split at h
    · rename_i e
      have := Nat.eq_of_beq_eq_true e; subst this; injection h with h; subst h
      obtain ⟨c, hc⟩ := Option.isSome_iff_exists.1 (show Tryz.f10.body.isSome = true by kernel_rfl)
      exact ⟨⟨_, c, Tryz.func10, hc⟩, yes10⟩
    · exact prims0At f p h
theorem calls3 {W : World} {H : Type} {enc : TypeId × Value → H} (hW : HasRow W) {m0 m1 : Nat} {cs0 cs1 : Array Value} {y0 y1 : DataW H × List MemPlace}
    (h0 : DataW.trod enc Tryz.prog W 0 (fun _ => true) true m0 31 cs0.toList = some y0) (h1 : DataW.trod enc Tryz.prog W 0 (fun _ => true) true m1 31 cs1.toList = some y1) :
    Calls Tryz.prog 3 #[.agg cs0, .agg cs1] W (fun e W' => e = .returned (.bool true) ∧ Below W.heap.size W W') := by
  obtain ⟨x0, i0⟩ := im31 hW h0
  obtain ⟨x1, i1⟩ := im31 hW h1
  obtain ⟨φ, h, n, a, b, r, ro, hv, ra, rb⟩ := imp_two i0 i1 (fun h n h' n' l e k => k.ext e)
  have := calls_of_AC draws names prims Tryz.func3 hb3 r ro hv (reloadAsks_ok h n a b x0 x1 ra rb)
  refine Calls.mono this fun e W' ⟨v, cv, h', n', φ', e1, e2, e3, _, e4⟩ => ⟨?_, e4⟩
  subst e2
  simp only [VR] at e3
  rw [e1, e3]
end Go.Am.T
