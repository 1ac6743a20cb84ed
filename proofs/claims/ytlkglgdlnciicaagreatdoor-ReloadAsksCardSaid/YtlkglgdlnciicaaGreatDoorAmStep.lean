/- Steps of a region, in the order of the text. -/
import Derived.Test.YtlkglgdlnciicaaGreatDoorAmLoud5
set_option linter.all false
namespace Go.Am
open Go

section
variable {P : Program}

structure EnvR (φ : Phi) (nt : Nat) (e : Env) (a : Act) : Prop where
  size : a.tmps.size = nt
  val : ∀ t v, t < nt → PT.get (posOf t) e = some v → ∃ cv, a.tmps[t]? = some cv ∧ VR φ v cv

theorem EnvR.mono {φ φ' : Phi} {nt : Nat} {e : Env} {a : Act} (h : EnvR φ nt e a) (hle : Le φ φ') : EnvR φ' nt e a :=
  ⟨h.size, fun t v ht hv => let ⟨cv, h1, h2⟩ := h.val t v ht hv; ⟨cv, h1, VR.mono hle _ _ h2⟩⟩

theorem slotOf_of {nt t : Nat} {p : Pos} (h : slotOf nt t = some p) : t < nt ∧ p = posOf t := by
  unfold slotOf at h
  split at h
  · rename_i hb
    injection h with h
    exact ⟨by have := nble_of hb; omega, h.symm⟩
  · cases h

theorem EnvR.slot {φ : Phi} {nt t : Nat} {p : Pos} {e : Env} {a : Act} {v : AV} (h : EnvR φ nt e a) (hp : slotOf nt t = some p) (hv : PT.get p e = some v) : VR φ v (a.tmps.getD t undef) := by
  obtain ⟨ht, rfl⟩ := slotOf_of hp
  obtain ⟨cv, h1, h2⟩ := h.val t v ht hv
  rw [Array.getD_eq_getD_getElem?, h1]
  exact h2

theorem opndC_ok {nt : Nat} {x : Operand} {e : Env} {k : AV → Bool} (h : (opndC nt x).run e k = true) : ∃ v, k v = true ∧ ∀ (φ : Phi) (a : Act), EnvR φ nt e a → VR φ v (a.eval x) := by
  cases x with
  | tmp t =>
    unfold opndC at h
    simp only at h
    cases hs : slotOf nt t with
    | none => rw [hs] at h; cases h
    | some p =>
      rw [hs] at h
      obtain ⟨v, hv, hk⟩ := getK_of h
      exact ⟨v, hk, fun φ a ha => ha.slot hs hv⟩
  | const c =>
    unfold opndC at h
    simp only at h
    cases hs : ofV c with
    | none => rw [hs] at h; cases h
    | some v =>
      rw [hs] at h
      exact ⟨v, h, fun φ a _ => ofV_VR hs⟩
  | global g => cases h
  | func f =>
    refine ⟨_, h, fun φ a _ => ?_⟩
    simp only [VR]
    exact ⟨#[], #[], rfl, by simp [VRs], by simp [VRs]⟩

theorem opndsC_ok {nt : Nat} : ∀ {xs : List Operand} {e : Env} {k : List AV → Bool}, (opndsC nt xs).run e k = true → ∃ vs, k vs = true ∧ ∀ (φ : Phi) (a : Act), EnvR φ nt e a → VRs φ vs (xs.map a.eval)
  | [], e, k, h => ⟨[], h, fun φ a _ => by simp [VRs]⟩
  | x :: xs, e, k, h => by
    have h' : (opndC nt x).run e (fun v => (opndsC nt xs).run e fun vs => k (v :: vs)) = true := h
    obtain ⟨v, h1, h2⟩ := opndC_ok h'
    obtain ⟨vs, h3, h4⟩ := opndsC_ok h1
    exact ⟨v :: vs, h3, fun φ a ha => VRs.cons (h2 φ a ha) (h4 φ a ha)⟩

theorem putC_ok {nt : Nat} (hnt : nt ≤ 100000) {d : Option Nat} {e : Env} {v : AV} {k : Env → Bool} (h : (putC nt d).run e v k = true) :
    ∃ e', k e' = true ∧ ∀ (φ : Phi) (a : Act) (cv : Value), EnvR φ nt e a → VR φ v cv → EnvR φ nt e' (a.put d cv) := by
  cases d with
  | none => exact ⟨e, h, fun φ a cv ha _ => ha⟩
  | some t =>
    unfold putC at h
    simp only at h
    cases hs : slotOf nt t with
    | none => rw [hs] at h; cases h
    | some p =>
      rw [hs] at h
      have h1 := setK_of h
      obtain ⟨ht, rfl⟩ := slotOf_of hs
      refine ⟨_, h1, fun φ a cv ha hv => ⟨by simp [Act.put, ha.size], fun u x hu hx => ?_⟩⟩
      by_cases hut : u = t
      · subst hut
        rw [get_set_same] at hx
        injection hx with hx
        subst hx
        refine ⟨cv, ?_, hv⟩
        simp only [Act.put]
        rw [Array.getElem?_setIfInBounds, if_pos rfl, if_pos (by rw [ha.size]; exact hu)]
      · rw [get_set_ne _ _ _ _ (fun hp => hut (posOf_inj (by omega) (by omega) hp).symm)] at hx
        obtain ⟨cx, h1, h2⟩ := ha.val u x hu hx
        refine ⟨cx, ?_, h2⟩
        simp only [Act.put]
        rw [Array.getElem?_setIfInBounds, if_neg (fun hp => hut hp.symm)]
        exact h1

theorem put_defers (a : Act) (d : Option Tmp) (v : Value) : (a.put d v).defers = a.defers := by cases d <;> rfl

/-- what is there behind steps -/
def Steps' (P : Program) (nt : Nat) (φ : Phi) (h : Hp) (n : Pos) (a : Act) (w : World) (e' : Env) (h' : Hp) (n' : Pos) (a' : Act) (w' : World) : Prop :=
  ∃ φ', EnvR φ' nt e' a' ∧ HRel P φ' h' n' w' ∧ Fr φ h n w φ' h' n' w' ∧ a'.defers = a.defers

theorem Steps'.trans {nt : Nat} {φ : Phi} {h h1 h2 : Hp} {n n1 n2 : Pos} {a a1 a2 : Act} {w w1 w2 : World} {e2 : Env} {φ1 : Phi} (x : Fr φ h n w φ1 h1 n1 w1) (hd : a1.defers = a.defers) (y : Steps' P nt φ1 h1 n1 a1 w1 e2 h2 n2 a2 w2) : Steps' P nt φ h n a w e2 h2 n2 a2 w2 := by
  obtain ⟨φ2, y1, y2, y3, y4⟩ := y
  exact ⟨φ2, y1, y2, x.trans y3, y4.trans hd⟩

theorem Does.upon {r : Result Next} {K : Value → World → Prop} {o : Oper} {a : Act} {next : Act → World → Prop} {Q : Exit → Act → World → Prop} (h : Does P r K) (hk : ∀ v w, K v w → next (a.put o.dst v) w) : o.upon P a next Q r := by
  unfold Does at h
  split at h
  · exact hk _ _ h
  · exact hk _ _ h
  · exact Calls.mono h fun e w'' he => by
      cases e with
      | returned v => exact hk _ _ he
      | panicked c => exact he.elim
      | outgrown => exact he.elim
  · exact h.elim

/-- a step's law -/
def StepOk (P : Program) (nt : Nat) (f : StepC) (run : Act → World → (Act → World → Prop) → Prop) : Prop :=
  ∀ call, CallerOk P call → ∀ e h n k, f.run call e h n k = true → ∃ e' h' n', k e' h' n' = true ∧ ∀ (φ : Phi) (a : Act) (w : World) (next : Act → World → Prop), EnvR φ nt e a → HRel P φ h n w →
    (∀ a' w', Steps' P nt φ h n a w e' h' n' a' w' → next a' w') → run a w next

/-- an operation's law, of its kind -/
def OKOk (P : Program) (op : Op) : OK → Prop
  | .pure f => PureOk P op f
  | .read f => ReadOk P op f
  | .alloc f => AllocOk P op f
  | .loud f => LoudOk P op f

theorem okC_ok (op : Op) : OKOk P op (okC P op) := by
  cases op with
  | convert s d x =>
    unfold okC
    simp only
    cases P.underlying s with
    | none => exact readC_ok _
    | some D => cases D <;> first | exact pureC_ok _ | exact readC_ok _
  | call c =>
    obtain ⟨callee, args, ts⟩ := c
    cases callee with
    | builtin b =>
      cases b <;> first | exact pureC_ok _ | exact loudC_ok _ | skip
      unfold okC
      simp only
      cases ts[0]? with
      | none => exact pureBad_ok _
      | some t =>
        simp only
        cases P.underlying t with
        | none => exact pureC_ok _
        | some D => cases D <;> first | exact pureC_ok _ | exact readC_ok _
    | value f => exact loudC_ok _
    | invoke r n => exact loudC_ok _
  | _ => first | exact pureC_ok _ | exact readC_ok _ | exact allocC_ok _ | exact loudC_ok _

theorem addK_of {h : Hp} {n : Pos} {b : ABlk} {k : Pos → Hp → Pos → Bool} (hk : addK h n b k = true) : k n (PT.set (some b) n h) n.nxt = true := succK_of (setK_of hk)

theorem opC_ok {nt : Nat} (hnt : nt ≤ 100000) (o : Oper) : StepOk P nt (opC P nt o) (fun a w next => ∀ Q, o.wp P a w next Q) := by
  intro call hc e h n k hk
  have hok := okC_ok (P := P) o.op
  unfold opC at hk
  cases hf : okC P o.op with
  | pure f =>
    rw [hf] at hk hok
    obtain ⟨vs, h1, hvs⟩ := opndsC_ok hk
    obtain ⟨v, h2, hv⟩ := hok _ _ h1
    obtain ⟨e', h3, he⟩ := putC_ok hnt h2
    refine ⟨e', h, n, h3, fun φ a w next ha hr hn Q => ?_⟩
    obtain ⟨cv, g1, g2⟩ := hv φ a.eval o w rfl (hvs φ a ha)
    unfold Oper.wp
    rw [g1]
    exact hn _ _ ⟨φ, he φ a cv ha g2, hr, Fr.refl _ _ _ _, put_defers _ _ _⟩
  | read f =>
    rw [hf] at hk hok
    obtain ⟨vs, h1, hvs⟩ := opndsC_ok hk
    obtain ⟨v, h2, hv⟩ := hok _ _ _ h1
    obtain ⟨e', h3, he⟩ := putC_ok hnt h2
    refine ⟨e', h, n, h3, fun φ a w next ha hr hn Q => ?_⟩
    obtain ⟨cv, g1, g2⟩ := hv φ n a.eval o w rfl hr (hvs φ a ha)
    unfold Oper.wp
    rw [g1]
    exact hn _ _ ⟨φ, he φ a cv ha g2, hr, Fr.refl _ _ _ _, put_defers _ _ _⟩
  | alloc f =>
    rw [hf] at hk hok
    obtain ⟨vs, h1, hvs⟩ := opndsC_ok hk
    obtain ⟨b, mk, h2, hv⟩ := hok _ _ h1
    have h3 := addK_of h2
    obtain ⟨e', h4, he⟩ := putC_ok hnt h3
    refine ⟨e', _, _, h4, fun φ a w next ha hr hn Q => ?_⟩
    obtain ⟨cv, obj, room, g1, g2, g3⟩ := hv φ a.eval o w rfl (hvs φ a ha)
    obtain ⟨a1, a2⟩ := hr.add obj room b g2
    unfold Oper.wp
    rw [g1]
    exact hn _ _ ⟨_, he _ a cv (ha.mono a2.le) (g3 _ _ (upd_same _ _ _)), a1, a2, put_defers _ _ _⟩
  | loud f =>
    rw [hf] at hk hok
    obtain ⟨vs, h1, hvs⟩ := opndsC_ok hk
    obtain ⟨v, h', n', h2, hv⟩ := hok call hc _ _ _ _ h1
    obtain ⟨e', h3, he⟩ := putC_ok hnt h2
    refine ⟨e', h', n', h3, fun φ a w next ha hr hn Q => ?_⟩
    have := hv φ a.eval o w rfl hr (hvs φ a ha)
    refine this.upon fun cv w' ⟨φ', b1, b2, b3⟩ => ?_
    exact hn _ _ ⟨φ', he φ' a cv (ha.mono b2.le) b3, b1, b2, put_defers _ _ _⟩

/-- whether a step is wanted -/
theorem wantC_ok {nt : Nat} {ops : Array Oper} {o : Oper} {j : Nat} {want : Bool} (hg : o.guard = some (j, want)) {e : Env} {y n : Bool} (h : (wantC nt ops o).run e y n = true) :
    ∃ r : Bool, (if r then y else n) = true ∧ ∀ (φ : Phi) (a : Act), EnvR φ nt e a → Region.wanted o (yielded ops a.tmps) = r := by
  unfold wantC at h
  rw [hg] at h
  simp only at h
  cases hj : ops[j]? with
  | none => rw [hj] at h; cases h
  | some g =>
    rw [hj] at h
    simp only at h
    cases hd : g.dst with
    | none => rw [hd] at h; cases h
    | some t =>
      rw [hd] at h
      simp only at h
      cases hs : slotOf nt t with
      | none => rw [hs] at h; cases h
      | some p =>
        rw [hs] at h
        obtain ⟨v, hv, hk⟩ := getK_of h
        obtain ⟨ht, rfl⟩ := slotOf_of hs
        have wan : ∀ (φ : Phi) (a : Act), EnvR φ nt e a → ∃ cv, a.tmps[t]? = some cv ∧ VR φ v cv ∧ Region.wanted o (yielded ops a.tmps) = ((match cv with | .bool b => some b | _ => none) == some want) := by
          intro φ a ha
          obtain ⟨cv, h1, h2⟩ := ha.val t v ht hv
          refine ⟨cv, h1, h2, ?_⟩
          simp only [Region.wanted, hg, yielded, hj, Option.bind_some, hd, h1]
          cases cv <;> rfl
        by_cases hb : ∃ x, v = .b x
        · obtain ⟨x, rfl⟩ := hb
          have hk' : bK (bK x want (notB want)) y n = true := hk
          refine ⟨x == want, ?_, fun φ a ha => ?_⟩
          · rcases bK_of hk' with ⟨h1, h2⟩ | ⟨h1, h2⟩
            · have : (x == want) = true := by cases x <;> cases want <;> first | rfl | cases h1
              rw [this]
              exact h2
            · have : (x == want) = false := by cases x <;> cases want <;> first | rfl | cases h1
              rw [this]
              exact h2
          · obtain ⟨cv, _, h2, h3⟩ := wan φ a ha
            simp only [VR] at h2
            subst h2
            rw [h3]
            cases x <;> cases want <;> rfl
        · refine ⟨false, ?_, fun φ a ha => ?_⟩
          · cases v <;> first | exact hk | exact absurd ⟨_, rfl⟩ hb
          · obtain ⟨cv, _, h2, h3⟩ := wan φ a ha
            rw [h3]
            cases cv <;> first | rfl | skip
            rename_i b0
            exfalso
            cases v <;> simp only [VR] at h2 <;> first | exact absurd ⟨_, rfl⟩ hb | (cases h2; done) | (obtain ⟨_, h2, _⟩ := h2; cases h2; done) | (obtain ⟨_, _, _, _, h2⟩ := h2; cases h2; done) | (obtain ⟨_, _, h2, _⟩ := h2; cases h2; done) | (obtain ⟨_, _, _, _, _, _, h2, _⟩ := h2; cases h2; done)

/-- the steps of wpOp -/
theorem stepC_ok {nt : Nat} (hnt : nt ≤ 100000) (ops : Array Oper) (o : Oper) :
    StepOk P nt (stepC P nt ops o) (fun a w next => ∀ Q, if Region.wanted o (yielded ops a.tmps) then o.wp P a w next Q ∨ (o.asks P a w ∧ LetsOut Q) else next (a.put o.dst undef) w) := by
  unfold stepC
  cases hg : o.guard with
  | none =>
    intro call hc e h n k hk
    obtain ⟨e', h', n', h1, h2⟩ := opC_ok hnt o call hc e h n k hk
    refine ⟨e', h', n', h1, fun φ a w next ha hr hn Q => ?_⟩
    have : Region.wanted o (yielded ops a.tmps) = true := by simp [Region.wanted, hg]
    show (if Region.wanted o (yielded ops a.tmps) = true then _ else _)
    rw [if_pos this]
    exact .inl (h2 φ a w next ha hr hn Q)
  | some g =>
    obtain ⟨j, want⟩ := g
    intro call hc e h n k hk
    obtain ⟨r, h1, h2⟩ := wantC_ok hg hk
    cases r with
    | true =>
      rw [if_pos rfl] at h1
      obtain ⟨e', h', n', h3, h4⟩ := opC_ok hnt o call hc e h n k h1
      refine ⟨e', h', n', h3, fun φ a w next ha hr hn Q => ?_⟩
      show (if Region.wanted o (yielded ops a.tmps) = true then _ else _)
      rw [if_pos (h2 φ a ha)]
      exact .inl (h4 φ a w next ha hr hn Q)
    | false =>
      rw [if_neg (by simp)] at h1
      obtain ⟨e', h3, he⟩ := putC_ok hnt h1
      refine ⟨e', h, n, h3, fun φ a w next ha hr hn Q => ?_⟩
      show (if Region.wanted o (yielded ops a.tmps) = true then _ else _)
      rw [if_neg (by simp [h2 φ a ha])]
      exact hn _ _ ⟨φ, he φ a undef ha (VR_undef φ), hr, Fr.refl _ _ _ _, put_defers _ _ _⟩

/-- a region in the order of the text -/
theorem seqC_ok {nt : Nat} (hnt : nt ≤ 100000) (ops : Array Oper) : ∀ (rest : List Oper) (i : Nat), ops.toList.drop i = rest →
    StepOk P nt (seqC P nt ops rest) (fun a w next => ∀ Q, (∀ a w, next a w → Q .normal a w) → wpOps P ops Q (List.range' i rest.length) a w) := by
  intro rest
  induction rest with
  | nil =>
    intro i hi call hc e h n k hk
    exact ⟨e, h, n, hk, fun φ a w next ha hr hn Q hq => hq _ _ (hn _ _ ⟨φ, ha, hr, Fr.refl _ _ _ _, rfl⟩)⟩
  | cons o rest ih =>
    intro i hi call hc e h n k hk
    have ho : ops[i]? = some o := by
      have : (ops.toList.drop i)[0]? = some o := by rw [hi]; rfl
      rw [List.getElem?_drop] at this
      simpa using this
    have hi' : ops.toList.drop (i + 1) = rest := by
      rw [← List.drop_drop, hi]
      rfl
    obtain ⟨e1, h1, n1, k1, s1⟩ := stepC_ok hnt ops o call hc e h n _ hk
    obtain ⟨e2, h2, n2, k2, s2⟩ := ih (i + 1) hi' call hc e1 h1 n1 _ k1
    refine ⟨e2, h2, n2, k2, fun φ a w next ha hr hn Q hq => ?_⟩
    have := s1 φ a w (wpOps P ops Q (List.range' (i + 1) rest.length)) ha hr fun a' w' ⟨φ', b1, b2, b3, b4⟩ =>
      s2 φ' a' w' next b1 b2 (fun a2 w2 c => hn _ _ (Steps'.trans b3 b4 c)) Q hq
    rw [List.length_cons, List.range'_succ, wpOps]
    simp only [ho]
    exact this Q

end
end Go.Am
