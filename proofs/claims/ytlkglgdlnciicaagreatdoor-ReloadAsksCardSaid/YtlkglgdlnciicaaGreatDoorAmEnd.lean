/- The end: what the machine's contract says of the model's call. -/
import Derived.Test.YtlkglgdlnciicaaGreatDoorAmIn
import Derived.Test.YtlkglgdlnciicaaGreatDoorAmPrim
import Derived.Test.YtlkglgdlnciicaaGreatDoorAmDraw6
import Derived.Test.YtlkglgdlnciicaaGreatDoorAmW8
import Derived.Below
set_option linter.all false
namespace Go.Am
open Go Go.RowKit

section
variable {P : Program} {W : World}
theorem calls_of_AC (hd : DrawOk P) (hn : NamesOk P) {prim : FuncId → Option Prim} (hp : PrimsOk P prim) {f : FuncId} {fn : Func} {c : Code} (hf : P.funcs[f]? = some fn) (hb : fn.body = some c)
    {φ : Phi} {h : Hp} {n : Pos} {args : List AV} {cargs : List Value} (hr : HRel P φ h n W) (ro : RoAll h) (hv : VRs φ args cargs) {K : AV → Hp → Pos → Prop} (hac : AC P prim f args h n K) :
    Calls P f cargs.toArray W (fun e W' => ∃ v cv h' n' φ', e = .returned cv ∧ K v h' n' ∧ VR φ' v cv ∧ HRel P φ' h' n' W' ∧ Below W.heap.size W W') := by
  obtain ⟨v, h', n', ⟨d0, hk⟩, hK⟩ := hac
  have := Classical.propDecidable
  have h1 := hk d0 (Nat.le_refl _) (fun v2 h2 n2 => decide (v2 = v ∧ h2 = h' ∧ n2 = n'))
  rw [decide_eq_true ⟨rfl, rfl, rfl⟩] at h1
  obtain ⟨v2, h2, n2, h3, h4⟩ := callD_ok hd hn hp d0 f args h n _ h1
  obtain ⟨rfl, rfl, rfl⟩ := of_decide_eq_true h3
  have h5 := h4 φ cargs W hr hv
  rw [call_body hn hf hb] at h5
  refine Calls.mono h5 fun e W' he => ?_
  cases e with
  | returned cv =>
    obtain ⟨φ', b1, b2, b3⟩ := he
    refine ⟨v2, cv, h2, n2, φ', rfl, hK, b3, b1, b2.os, b2.tape, b2.out, b2.size, fun k hk => ?_⟩
    by_cases hx : ∃ id x, (PT.get id h).isSome = true ∧ φ id = some x ∧ x.1 = k
    · obtain ⟨id, x, i, e, rfl⟩ := hx
      obtain ⟨B, eB⟩ := Option.isSome_iff_exists.1 i
      exact (b2.kept id B x eB (ro _ _ eB) e).2
    · exact b2.old k hk fun id x i e g => hx ⟨id, x, i, e, g⟩
  | panicked c => exact he.elim
  | outgrown => exact he.elim

/-- names, by one look at the whole program -/
theorem namesOk_of (h : P.funcs.all (fun fn => fn.name != "runtime.NumGoroutine") = true) : NamesOk P := fun f fn hf => by
  obtain ⟨hlt, he⟩ := Array.getElem?_eq_some_iff.1 hf
  have := (Array.all_eq_true.1 h) f hlt
  rw [he] at this
  simpa using this

/-- from nothing -/
theorem hrel_nil : HRel P (fun _ => none) .L .xH W ∧ RoAll .L :=
  ⟨⟨fun id B e => by rw [get_L] at e; exact absurd e (by simp), fun id id' B B' x x' e => by rw [get_L] at e; exact absurd e (by simp), fun id x e => by exact absurd e (by simp)⟩, fun id B e => by rw [get_L] at e; exact absurd e (by simp)⟩
/-- two arguments that are rows of cells -/
theorem imp_two {cs ds : List Value} {R S : Hp → Pos → List AV → Prop} (h1 : Imp P W cs R) (h2 : Imp P W ds S) (hg : Grows R) :
    ∃ φ h n a b, HRel P φ h n W ∧ RoAll h ∧ VRs φ [.agg a, .agg b] [.agg cs.toArray, .agg ds.toArray] ∧ R h n a ∧ S h n b := by
  obtain ⟨φ1, k1, n1, l1, a1, a2, a3, a4, a5, a6, a7⟩ := h1 _ _ _ (hrel_nil (P := P) (W := W)).1 (hrel_nil (P := P) (W := W)).2
  obtain ⟨φ2, k2, n2, l2, b1, b2, b3, b4, b5, b6, b7⟩ := h2 φ1 k1 n1 a1 a3
  refine ⟨φ2, k2, n2, l1, l2, b1, b3, VRs.cons ?_ (VRs.cons ?_ VRs.nil), hg _ _ _ _ _ b4 a7, b7⟩
  · simp only [VR]
    exact ⟨_, rfl, by simpa using a5.mono b2, a6⟩
  · simp only [VR]
    exact ⟨_, rfl, by simpa using b5, b6⟩
end
end Go.Am
