/- Functions without a Go body that the machine knows. -/
import Derived.Test.YtlkglgdlnciicaaGreatDoorAmDraw6
import Derived.Laws.Externs
import Derived.Lib.MakeNoZero
set_option linter.all false
namespace Go.Am
open Go

section
variable {P : Program}

theorem uno_of {vs : List AV} {k} (h : uno vs k = true) : ∃ x, vs = [x] ∧ k x = true := by
  obtain ⟨x, r, rfl, h1⟩ := hd_of h
  cases r with
  | nil => exact ⟨x, rfl, h1⟩
  | cons y r => cases h1

theorem tri_of {vs : List AV} {k} (h : tri vs k = true) : ∃ x y z, vs = [x, y, z] ∧ k x y z = true := by
  obtain ⟨x, r, rfl, h1⟩ := hd_of h
  obtain ⟨y, r2, rfl, h2⟩ := hd_of h1
  obtain ⟨z, rfl, h3⟩ := uno_of h2
  exact ⟨x, y, z, rfl, h3⟩

theorem wordK_of {v : AV} {k : Nat → Bool} (h : wordK v k = true) : ∃ m : Nat, v = .i .u64 m ∧ m < 18446744073709551616 ∧ k m = true := by
  obtain ⟨j, n, rfl, h1⟩ := asI_of h
  obtain ⟨h2, h3⟩ := wK_of h1
  have := kindEq_of h2
  subst this
  cases n with
  | ofNat m =>
    obtain ⟨h4, h5⟩ := wK_of h3
    have h4 := nble_of h4
    unfold two64 at h4
    exact ⟨m, rfl, by omega, h5⟩
  | negSucc m => cases h3

theorem natK_of {v : AV} {k : Nat → Bool} (h : natK v k = true) : ∃ m : Nat, v = .i .i64 m ∧ k m = true := by
  obtain ⟨j, n, rfl, h1⟩ := asI_of h
  obtain ⟨h2, h3⟩ := wK_of h1
  have := kindEq_of h2
  subst this
  cases n with
  | ofNat m => exact ⟨m, rfl, h3⟩
  | negSucc m => cases h3

noncomputable def sub64Entry : Array Value → Sem Value := fun args => do
  let (x, y, b) ← Extern.MathBitsCarry.three "Sub64" args
  pure (Extern.MathBitsCarry.pair ((x + Extern.MathBitsCarry.m64 - y - b) % Extern.MathBitsCarry.m64) (if x < y + b then 1 else 0))

theorem run_sub64 (x y k : Nat) (hk : k ≤ 1) (w : World) :
    (sub64Entry #[.int .u64 x, .int .u64 y, .int .u64 k]).run P w =
      .ok (Extern.MathBitsCarry.pair ((x + Extern.MathBitsCarry.m64 - y - k) % Extern.MathBitsCarry.m64) (if x < y + k then 1 else 0)) w := by
  have : k = 0 ∨ k = 1 := by omega
  rcases this with rfl | rfl <;> rfl

theorem run_add64' (x y k : Nat) (hk : k ≤ 1) (w : World) :
    (add64Entry #[.int .u64 x, .int .u64 y, .int .u64 k]).run P w =
      .ok (Extern.MathBitsCarry.pair ((x + y + k) % Extern.MathBitsCarry.m64) ((x + y + k) / Extern.MathBitsCarry.m64)) w := by
  have : k = 0 ∨ k = 1 := by omega
  rcases this with rfl | rfl <;> rfl

/-- what a run has shown of a function without arguments -/
def Yes (P : Program) (f : FuncId) : Prop := ∀ w : World, Calls P f #[] w fun e w' => e = .returned (.bool true) ∧ w'.tape = w.tape ∧ w'.os = w.os ∧ w'.output = w.output ∧ w.heap.size ≤ w'.heap.size ∧ ∀ b, b < w.heap.size → w'.heap[b]? = w.heap[b]?

/-- what the program bears there -/
def PrimAt (P : Program) (f : FuncId) (p : Prim) : Prop := match p with
  | .yes => (∃ fn c, P.funcs[f]? = some fn ∧ fn.body = some c) ∧ Yes P f
  | p => ∃ fn e, P.funcs[f]? = some fn ∧ (fn.name == "runtime.NumGoroutine") = false ∧ fn.body.isNone = true ∧ Extern.findNext fn = none ∧ Extern.find fn = some e ∧ match p with
    | .same => e = Extern.AbiNoEscape.same
    | .makeNoZero t => ∃ ps s, e = Extern.BytealgMakeNoZero.makeNoZero ps #[s] ∧ P.underlying s = some (.slice t)
    | .add64 => e = add64Entry
    | .sub64 => e = sub64Entry
    | _ => False

theorem VRs.one {φ : Phi} {x : AV} {vs : List Value} (h : VRs φ [x] vs) : ∃ v, vs = [v] ∧ VR φ x v := by
  obtain ⟨v, vs', rfl, h1, h2⟩ := h.uncons
  cases vs' with
  | nil => exact ⟨v, rfl, h1⟩
  | cons _ _ => simp [VRs] at h2

theorem VRs.three {φ : Phi} {x y z : AV} {vs : List Value} (h : VRs φ [x, y, z] vs) : ∃ v u t, vs = [v, u, t] ∧ VR φ x v ∧ VR φ y u ∧ VR φ z t := by
  obtain ⟨v, vs', rfl, h1, h2⟩ := h.uncons
  obtain ⟨u, vs'', rfl, h3, h4⟩ := h2.uncons
  obtain ⟨t, rfl, h5⟩ := h4.one
  exact ⟨v, u, t, rfl, h1, h3, h5⟩

theorem nought_of {vs : List AV} {k : Bool} (h : nought vs k = true) : vs = [] ∧ k = true := by
  cases vs with
  | nil => exact ⟨rfl, h⟩
  | cons x r => cases h

theorem yes_ok (hn : NamesOk P) {f : FuncId} (hp : PrimAt P f .yes) : ∀ args h n k, primK .yes args h n k = true → ∃ v h' n', k v h' n' = true ∧ ∀ (φ : Phi) (cargs : List Value) (w : World), HRel P φ h n w → VRs φ args cargs →
    Does P ((callFunc f cargs.toArray).run P w) (After P φ h n w v h' n') := by
  intro args h n k hk
  obtain ⟨⟨fn, c, hf, hb⟩, hy⟩ := hp
  obtain ⟨rfl, h1⟩ := nought_of hk
  refine ⟨_, _, _, h1, fun φ cargs w hr ha => ?_⟩
  have : cargs = [] := by
    cases cargs with
    | nil => rfl
    | cons x r => simp [VRs] at ha
  subst this
  rw [call_body hn hf hb]
  refine Calls.mono (hy w) fun e w' he => ?_
  obtain ⟨rfl, t1, t2, t3, t4, t5⟩ := he
  refine ⟨φ, hr.world t4 fun id x _ e => t5 _ (hr.bound _ _ e).2, ⟨fun _ _ e => e, Nat.le_refl _, t4, fun b hb _ => t5 b hb, fun id x i e => .inr ⟨id, x, i, e, rfl⟩, t1, t2, t3, fun _ _ e => .inl e, fun id B x e _ ex => ⟨e, t5 _ (hr.bound _ _ ex).2⟩⟩, ?_⟩
  simp only [VR]

theorem primK_ok {f : FuncId} {p : Prim} (hn : NamesOk P) (hp : PrimAt P f p) : ∀ args h n k, primK p args h n k = true → ∃ v h' n', k v h' n' = true ∧ ∀ (φ : Phi) (cargs : List Value) (w : World), HRel P φ h n w → VRs φ args cargs →
    Does P ((callFunc f cargs.toArray).run P w) (After P φ h n w v h' n') := by
  by_cases hpy : p = .yes
  · subst hpy; exact yes_ok hn hp
  intro args h n k hk
  have hp : ∃ fn e, P.funcs[f]? = some fn ∧ (fn.name == "runtime.NumGoroutine") = false ∧ fn.body.isNone = true ∧ Extern.findNext fn = none ∧ Extern.find fn = some e ∧ match p with
    | .same => e = Extern.AbiNoEscape.same
    | .makeNoZero t => ∃ ps s, e = Extern.BytealgMakeNoZero.makeNoZero ps #[s] ∧ P.underlying s = some (.slice t)
    | .add64 => e = add64Entry
    | .sub64 => e = sub64Entry
    | _ => False := by cases p <;> first | exact hp | exact absurd rfl hpy
  obtain ⟨fn, e, hf, hnm, hb, hnx, hfd, he⟩ := hp
  have hrun := fun args w => run_callFunc_extern (P := P) hf hnm hb hnx hfd args w
  cases p with
  | yes => exact absurd rfl hpy
  | same =>
    simp only at he
    subst he
    obtain ⟨x, rfl, h1⟩ := uno_of hk
    refine ⟨x, h, n, h1, fun φ cargs w hr ha => ?_⟩
    obtain ⟨v, rfl, hv⟩ := ha.one
    rw [hrun]
    exact ⟨φ, hr, Fr.refl _ _ _ _, hv⟩
  | makeNoZero t =>
    simp only at he
    obtain ⟨ps, s, rfl, hs⟩ := he
    obtain ⟨x, rfl, h1⟩ := uno_of hk
    obtain ⟨m, rfl, h2⟩ := natK_of h1
    obtain ⟨h3, h4⟩ := wK_of h2
    have h3 := nble_of h3
    have h5 := addK_of h4
    refine ⟨_, _, _, h5, fun φ cargs w hr ha => ?_⟩
    obtain ⟨v, rfl, hv⟩ := ha.one
    simp only [VR] at hv
    subst hv
    rw [hrun]
    obtain ⟨cs, g1, g2, _⟩ := Lib.run_makeNoZero (P := P) w ps s t hs m (by omega)
    rw [g1]
    obtain ⟨a1, a2⟩ := hr.drew.drew.add (.cells cs t) cs.size (.cells t []) ⟨cs, rfl, rfl, Nat.zero_le _, by simp [VRs], by simp⟩
    refine ⟨_, a1, ((Fr.drew φ h n w).trans (Fr.drew φ h n w.drew)).trans a2, ?_⟩
    simp only [VR]
    exact ⟨_, _, _, _, cs.size, upd_same _ _ _, rfl, g2, fun _ => ⟨rfl, by omega⟩, by simp⟩
  | add64 =>
    simp only at he
    subst he
    obtain ⟨x, y, z, rfl, h1⟩ := tri_of hk
    obtain ⟨a, rfl, ha, h2⟩ := wordK_of h1
    obtain ⟨b, rfl, hb, h3⟩ := wordK_of h2
    obtain ⟨o, rfl, ho, h4⟩ := wordK_of h3
    obtain ⟨h5, h6⟩ := wK_of h4
    have h5 := nble_of h5
    rw [fNat_eq] at h6
    have key : ∀ (r c : Nat), r = (a + b + o) % Extern.MathBitsCarry.m64 → c = (a + b + o) / Extern.MathBitsCarry.m64 → ∀ (φ : Phi) (cargs : List Value) (w : World), HRel P φ h n w → VRs φ [.i .u64 a, .i .u64 b, .i .u64 o] cargs →
        Does P ((callFunc f cargs.toArray).run P w) (After P φ h n w (.tup [.i .u64 (.ofNat r), .i .u64 (.ofNat c)]) h n) := by
      rintro _ _ rfl rfl φ cargs w hr hv
      obtain ⟨v, u, t, rfl, e1, e2, e3⟩ := hv.three
      simp only [VR] at e1 e2 e3
      subst e1 e2 e3
      rw [hrun, run_add64' a b o h5 w]
      refine ⟨φ, hr, Fr.refl _ _ _ _, ?_⟩
      simp only [VR, Extern.MathBitsCarry.pair]
      exact ⟨_, rfl, by simp [VRs, VR]⟩
    rcases bK_of h6 with ⟨c1, h7⟩ | ⟨c1, h7⟩
    · rw [fNat_eq] at h7
      have c1 := nble_of c1
      unfold two64 at c1 h7
      refine ⟨_, _, _, h7, key _ 1 ?_ ?_⟩
      · simp only [Extern.MathBitsCarry.m64]; omega
      · simp only [Extern.MathBitsCarry.m64]; omega
    · have c1 : ¬ two64 ≤ a + b + o := fun hh => by rw [Nat.ble_eq_true_of_le hh] at c1; cases c1
      unfold two64 at c1
      refine ⟨_, _, _, h7, key _ 0 ?_ ?_⟩
      · simp only [Extern.MathBitsCarry.m64]; omega
      · simp only [Extern.MathBitsCarry.m64]; omega
  | sub64 =>
    simp only at he
    subst he
    obtain ⟨x, y, z, rfl, h1⟩ := tri_of hk
    obtain ⟨a, rfl, ha, h2⟩ := wordK_of h1
    obtain ⟨b, rfl, hb, h3⟩ := wordK_of h2
    obtain ⟨o, rfl, ho, h4⟩ := wordK_of h3
    obtain ⟨h5, h6⟩ := wK_of h4
    have h5 := nble_of h5
    have key : ∀ (r c : Nat), r = (a + Extern.MathBitsCarry.m64 - b - o) % Extern.MathBitsCarry.m64 → c = (if a < b + o then 1 else 0) → ∀ (φ : Phi) (cargs : List Value) (w : World), HRel P φ h n w → VRs φ [.i .u64 a, .i .u64 b, .i .u64 o] cargs →
        Does P ((callFunc f cargs.toArray).run P w) (After P φ h n w (.tup [.i .u64 (.ofNat r), .i .u64 (.ofNat c)]) h n) := by
      rintro _ _ rfl rfl φ cargs w hr hv
      obtain ⟨v, u, t, rfl, e1, e2, e3⟩ := hv.three
      simp only [VR] at e1 e2 e3
      subst e1 e2 e3
      rw [hrun, run_sub64 a b o h5 w]
      refine ⟨φ, hr, Fr.refl _ _ _ _, ?_⟩
      simp only [VR, Extern.MathBitsCarry.pair]
      exact ⟨_, rfl, by simp [VRs, VR]⟩
    rcases bK_of h6 with ⟨c1, h7⟩ | ⟨c1, h7⟩
    · rw [fNat_eq] at h7
      have c1 := nble_of c1
      refine ⟨_, _, _, h7, key _ 0 ?_ ?_⟩
      · simp only [Extern.MathBitsCarry.m64]; omega
      · rw [if_neg (by omega)]
    · have c1 : ¬ b + o ≤ a := fun hh => by rw [Nat.ble_eq_true_of_le hh] at c1; cases c1
      rw [fNat_eq] at h7
      unfold two64 at h7
      refine ⟨_, _, _, h7, key _ 1 ?_ ?_⟩
      · simp only [Extern.MathBitsCarry.m64]; omega
      · rw [if_pos (by omega)]
  | mapsClone => exact he.elim

theorem primsOk (hn : NamesOk P) {prim : FuncId → Option Prim} (h : ∀ f p, prim f = some p → PrimAt P f p) : PrimsOk P prim := fun f p hf => primK_ok hn (h f p hf)

end
end Go.Am
