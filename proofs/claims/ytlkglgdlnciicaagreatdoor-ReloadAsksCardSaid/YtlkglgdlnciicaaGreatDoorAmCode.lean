/- Code, functions, calls: sound, if the regions that draw their order are. -/
import Derived.Test.YtlkglgdlnciicaaGreatDoorAmStep
import Derived.LoopN
set_option linter.all false
namespace Go.Am
open Go

section
variable {P : Program}

def exitOf : Ex → Exit
  | .normal => .normal
  | .exit j => .exit j
  | .ret => .ret

theorem exK_of {x : Ex} {n : Bool} {e : Nat → Bool} {r : Bool} (h : exK x n e r = true) : (x = .normal ∧ n = true) ∨ (∃ j, x = .exit j ∧ e j = true) ∨ (x = .ret ∧ r = true) := by
  cases x with
  | normal => exact .inl ⟨rfl, h⟩
  | exit j => exact .inr (.inl ⟨j, rfl, h⟩)
  | ret => exact .inr (.inr ⟨rfl, h⟩)

def CodeOk (P : Program) (nt : Nat) (c : Code) (run : Caller → Env → Hp → Pos → (Ex → Env → Hp → Pos → Bool) → Bool) : Prop :=
  ∀ call, CallerOk P call → ∀ e h n k, run call e h n k = true → ∃ x e' h' n', k x e' h' n' = true ∧ ∀ (φ : Phi) (a : Act) (w : World) (Q : Exit → Act → World → Prop), EnvR φ nt e a → HRel P φ h n w →
    (∀ a' w', Steps' P nt φ h n a w e' h' n' a' w' → Q (exitOf x) a' w') → c.wp P Q a w

/-- the law of a region that draws its order -/
def DrawOk (P : Program) : Prop :=
  ∀ (nt id : Nat) (ops : Array Oper), nt ≤ 100000 → CodeOk P nt (.region id ops true) (fun call e h n k => (regionC P nt ops).run call e h n fun e' h' n' => k .normal e' h' n')

theorem loop_ok {nt : Nat} {b : Code} (hb : CodeOk P nt b (codeC P nt b).run) : ∀ fuel, CodeOk P nt (.loop b) (fun call e h n k => loopK fuel (codeC P nt b) call e h n k) := by
  have key : ∀ fuel call, CallerOk P call → ∀ e h n k, loopK fuel (codeC P nt b) call e h n k = true → ∃ x e' h' n', k x e' h' n' = true ∧ ∀ (φ : Phi) (a : Act) (w : World) (Q : Exit → Act → World → Prop), EnvR φ nt e a → HRel P φ h n w →
      (∀ a' w', Steps' P nt φ h n a w e' h' n' a' w' → Q (exitOf x) a' w') → Code.rounds P b Q fuel a w := by
    intro fuel
    induction fuel with
    | zero => intro call _ e h n k hk; cases hk
    | succ fuel ih =>
      intro call hc e h n k hk
      obtain ⟨x, e1, h1, n1, k1, s1⟩ := hb call hc e h n _ hk
      rcases exK_of k1 with ⟨rfl, k2⟩ | ⟨j, rfl, k2⟩ | ⟨rfl, k2⟩
      · obtain ⟨x, e2, h2, n2, k3, s2⟩ := ih call hc e1 h1 n1 k k2
        refine ⟨x, e2, h2, n2, k3, fun φ a w Q ha hr hq => ?_⟩
        rw [rounds_succ]
        exact s1 φ a w _ ha hr fun a' w' ⟨φ', b1, b2, b3, b4⟩ => s2 φ' a' w' Q b1 b2 fun a2 w2 c => hq _ _ (Steps'.trans b3 b4 c)
      · exact ⟨_, _, _, _, k2, fun φ a w Q ha hr hq => by rw [rounds_succ]; exact s1 φ a w _ ha hr hq⟩
      · exact ⟨_, _, _, _, k2, fun φ a w Q ha hr hq => by rw [rounds_succ]; exact s1 φ a w _ ha hr hq⟩
  intro fuel call hc e h n k hk
  obtain ⟨x, e1, h1, n1, k1, s1⟩ := key fuel call hc e h n k hk
  exact ⟨x, e1, h1, n1, k1, fun φ a w Q ha hr hq => wp_loop_rounds fuel (s1 φ a w Q ha hr hq)⟩

theorem codeC_ok (hd : DrawOk P) {nt : Nat} (hnt : nt ≤ 100000) : ∀ c : Code, CodeOk P nt c (codeC P nt c).run
  | .skip => fun call _ e h n k hk => ⟨.normal, e, h, n, hk, fun φ a w Q ha hr hq => wp_skip (hq _ _ ⟨φ, ha, hr, Fr.refl _ _ _ _, rfl⟩)⟩
  | .region id ops true => hd nt id ops hnt
  | .region id ops false => by
    intro call hc e h n k hk
    obtain ⟨e', h', n', k1, s1⟩ := seqC_ok (P := P) hnt ops ops.toList 0 rfl call hc e h n _ hk
    refine ⟨.normal, e', h', n', k1, fun φ a w Q ha hr hq => wp_region ?_⟩
    have := s1 φ a w (Q .normal) ha hr (fun a' w' hs => hq a' w' hs) Q (fun _ _ hh => hh)
    rw [List.range_eq_range']
    simpa using this
  | .seq a b => by
    intro call hc e h n k hk
    obtain ⟨x, e1, h1, n1, k1, s1⟩ := codeC_ok hd hnt a call hc e h n _ hk
    rcases exK_of k1 with ⟨rfl, k2⟩ | ⟨j, rfl, k2⟩ | ⟨rfl, k2⟩
    · obtain ⟨x, e2, h2, n2, k3, s2⟩ := codeC_ok hd hnt b call hc e1 h1 n1 k k2
      exact ⟨x, e2, h2, n2, k3, fun φ a w Q ha hr hq => wp_seq (s1 φ a w _ ha hr fun a' w' ⟨φ', b1, b2, b3, b4⟩ => s2 φ' a' w' Q b1 b2 fun a2 w2 c => hq _ _ (Steps'.trans b3 b4 c))⟩
    · exact ⟨_, _, _, _, k2, fun φ a w Q ha hr hq => wp_seq (s1 φ a w _ ha hr hq)⟩
    · exact ⟨_, _, _, _, k2, fun φ a w Q ha hr hq => wp_seq (s1 φ a w _ ha hr hq)⟩
  | .cond c a b => by
    intro call hc e h n k hk
    obtain ⟨v, k1, s0⟩ := opndC_ok hk
    obtain ⟨t, rfl, k2⟩ := asB_of k1
    rcases bK_of k2 with ⟨rfl, k3⟩ | ⟨rfl, k3⟩
    · obtain ⟨x, e1, h1, n1, k4, s1⟩ := codeC_ok hd hnt a call hc e h n k k3
      refine ⟨x, e1, h1, n1, k4, fun φ a w Q ha hr hq => wp_cond_true ?_ (s1 φ a w Q ha hr hq)⟩
      simpa [VR] using s0 φ a ha
    · obtain ⟨x, e1, h1, n1, k4, s1⟩ := codeC_ok hd hnt b call hc e h n k k3
      refine ⟨x, e1, h1, n1, k4, fun φ a w Q ha hr hq => wp_cond_false ?_ (s1 φ a w Q ha hr hq)⟩
      simpa [VR] using s0 φ a ha
  | .block id b => by
    intro call hc e h n k hk
    obtain ⟨x, e1, h1, n1, k1, s1⟩ := codeC_ok hd hnt b call hc e h n _ hk
    rcases exK_of k1 with ⟨rfl, k2⟩ | ⟨j, rfl, k2⟩ | ⟨rfl, k2⟩
    · exact ⟨.normal, _, _, _, k2, fun φ a w Q ha hr hq => wp_block (s1 φ a w _ ha hr hq)⟩
    · rcases bK_of k2 with ⟨hj, k3⟩ | ⟨hj, k3⟩
      · refine ⟨.normal, _, _, _, k3, fun φ a w Q ha hr hq => wp_block (s1 φ a w _ ha hr fun a' w' hs => ?_)⟩
        have := nbeq_of hj
        show (if j = id then _ else _)
        rw [if_pos this]
        exact hq _ _ hs
      · refine ⟨.exit j, _, _, _, k3, fun φ a w Q ha hr hq => wp_block (s1 φ a w _ ha hr fun a' w' hs => ?_)⟩
        have : j ≠ id := fun he => by subst he; simp at hj
        show (if j = id then _ else _)
        rw [if_neg this]
        exact hq _ _ hs
    · exact ⟨.ret, _, _, _, k2, fun φ a w Q ha hr hq => wp_block (s1 φ a w _ ha hr hq)⟩
  | .loop b => loop_ok (codeC_ok hd hnt b) loopMax
  | .exit id => fun call _ e h n k hk => ⟨.exit id, e, h, n, hk, fun φ a w Q ha hr hq => wp_exit (hq _ _ ⟨φ, ha, hr, Fr.refl _ _ _ _, rfl⟩)⟩
  | .ret => fun call _ e h n k hk => ⟨.ret, e, h, n, hk, fun φ a w Q ha hr hq => wp_ret (hq _ _ ⟨φ, ha, hr, Fr.refl _ _ _ _, rfl⟩)⟩
  | .rangeFunc _ _ _ _ => fun _ _ _ _ _ _ hk => by cases hk
  | .scope _ => fun _ _ _ _ _ _ hk => by cases hk
  | .refuse _ => fun _ _ _ _ _ _ hk => by cases hk
  | .label _ => fun _ _ _ _ _ _ hk => by cases hk
  | .goto _ => fun _ _ _ _ _ _ hk => by cases hk

theorem envK_of : ∀ (args : List AV) (j : Nat) (e : Env) (k : Env → Bool), j + args.length ≤ 100000 → envK args j e k = true →
    ∃ e', k e' = true ∧ ∀ t, t < 100000 → PT.get (posOf t) e' = if j ≤ t ∧ t < j + args.length then args[t - j]? else PT.get (posOf t) e
  | [], j, e, k, _, h => ⟨e, h, fun t _ => by rw [if_neg (fun hh => by simp at hh; omega)]⟩
  | a :: args, j, e, k, hj, h => by
    have h' : PT.setK (posOf j) (some a) e (fun e' => envK args (Nat.succ j) e' k) = true := h
    have h1 := setK_of h'
    simp only [List.length_cons] at hj
    obtain ⟨e', h2, h3⟩ := envK_of args (j + 1) _ k (by omega) h1
    refine ⟨e', h2, fun t ht => ?_⟩
    rw [h3 t ht]
    simp only [List.length_cons]
    by_cases h0 : t = j
    · subst h0
      rw [if_neg (by omega), get_set_same, if_pos (by omega)]
      simp
    · rw [get_set_ne _ _ _ _ (fun hp => h0 (posOf_inj (by omega) (by omega) hp).symm)]
      by_cases h4 : j + 1 ≤ t ∧ t < j + 1 + args.length
      · rw [if_pos h4, if_pos (by omega)]
        rw [show t - j = (t - (j + 1)) + 1 from by omega]
        simp
      · rw [if_neg h4, if_neg (by omega)]

theorem enter_env {nt : Nat} (hnt : nt ≤ 100000) {args : List AV} {k : Env → Bool} (hl : args.length ≤ nt) (h : envK args 0 .L k = true) :
    ∃ e', k e' = true ∧ ∀ (φ : Phi) (cargs : List Value), VRs φ args cargs → EnvR φ nt e' { tmps := cargs.toArray ++ Array.replicate (nt - cargs.toArray.size) undef, defers := [] } := by
  obtain ⟨e', h1, h2⟩ := envK_of args 0 .L k (by omega) h
  refine ⟨e', h1, fun φ cargs hr => ⟨?_, fun t v ht hv => ?_⟩⟩
  · have := hr.length
    simp
    omega
  · rw [h2 t (by omega)] at hv
    split at hv
    · rename_i hlt
      obtain ⟨cv, e1, e2⟩ := hr.get (i := t) (by simpa using hv)
      refine ⟨cv, ?_, e2⟩
      rw [Array.getElem?_append]
      have : t < cargs.length := (List.getElem?_eq_some_iff.1 e1).1
      rw [if_pos (by simpa using this)]
      simpa using e1
    · rw [get_L] at hv
      cases hv

/-- one result -/
noncomputable def resOne (tmps : Array Value) : ResultVar → Sem Value
  | .tmp t => pure (tmps.getD t undef)
  | .cell c t => do loadVar t (← asAddr (tmps.getD c undef))

theorem results_eq (fn : Func) (tmps : Array Value) : results fn tmps = (do
    let vs ← fn.results.mapM (resOne tmps)
    pure (if h : vs.size = 1 then vs[0] else .tuple vs)) := by
  unfold results
  congr 1

theorem run_mapM_cons {x : ResultVar} {xs : List ResultVar} {f : ResultVar → Sem Value} {v : Value} {vs : List Value} {w : World} (h : (f x).run P w = .ok v w) (h' : (xs.mapM f).run P w = .ok vs w) : ((x :: xs).mapM f).run P w = .ok (v :: vs) w := by
  rw [List.mapM_cons]
  simp [h, h']

theorem resC_ok {nt : Nat} : ∀ (rs : List ResultVar) (e : Env) (h : Hp) (k : List AV → Bool), (resC P nt rs).run e h k = true →
    ∃ vs, k vs = true ∧ vs.length = rs.length ∧ ∀ (φ : Phi) (n : Pos) (a : Act) (w : World), EnvR φ nt e a → HRel P φ h n w → ∃ cvs, (rs.mapM (resOne a.tmps)).run P w = .ok cvs w ∧ VRs φ vs cvs
  | [], e, h, k, hk => ⟨[], hk, rfl, fun φ n a w _ _ => ⟨[], by simp, VRs.nil⟩⟩
  | .tmp t :: rs, e, h, k, hk => by
    unfold resC at hk
    cases hs : slotOf nt t with
    | none => rw [hs] at hk; cases hk
    | some p =>
      rw [hs] at hk
      obtain ⟨v, hv, h1⟩ := getK_of hk
      obtain ⟨vs, h2, hl, h3⟩ := resC_ok rs e h _ h1
      refine ⟨v :: vs, h2, by simp [hl], fun φ n a w ha hr => ?_⟩
      obtain ⟨cvs, e1, e2⟩ := h3 φ n a w ha hr
      refine ⟨_ :: cvs, ?_, VRs.cons (ha.slot hs hv) e2⟩
      exact run_mapM_cons (by simp [resOne]) e1
  | .cell c t :: rs, e, h, k, hk => by
    unfold resC at hk
    cases hs : slotOf nt c with
    | none => rw [hs] at hk; cases hk
    | some p =>
      cases hg : isAggT P t with
      | none => rw [hs, hg] at hk; cases hk
      | some g =>
        cases hm : szT P t with
        | none => rw [hs, hg, hm] at hk; cases hk
        | some m =>
          rw [hs, hg, hm] at hk
          obtain ⟨x, hx, h1⟩ := getK_of hk
          obtain ⟨id, off, rfl, h2⟩ := asP_of h1
          obtain ⟨v, h3, hrun⟩ := loadK_of (P := P) hg hm h2
          obtain ⟨vs, h4, hl, h5⟩ := resC_ok rs e h _ h3
          refine ⟨v :: vs, h4, by simp [hl], fun φ n a w ha hr => ?_⟩
          have hv := ha.slot hs hx
          simp only [VR] at hv
          obtain ⟨b, base, room, hφ, ev⟩ := hv
          obtain ⟨cv, e1, e2⟩ := hrun φ n w b base room hr hφ
          obtain ⟨cvs, e3, e4⟩ := h5 φ n a w ha hr
          refine ⟨cv :: cvs, ?_, VRs.cons e2 e4⟩
          exact run_mapM_cons (by simp only [resOne, Sem.run_bind, ev, asAddr, Sem.run_pure, Result.andThen_ok, e1]) e3

theorem oneOr_of {vs : List AV} {k : AV → Bool} (h : oneOr vs k = true) : ∃ v, k v = true ∧ ∀ (φ : Phi) (cvs : Array Value), VRs φ vs cvs.toList → VR φ v (if h : cvs.size = 1 then cvs[0] else .tuple cvs) := by
  match vs, h with
  | [], h =>
    refine ⟨.tup [], h, fun φ cvs hr => ?_⟩
    have hl := hr.length
    simp at hl
    rw [dif_neg (by omega)]
    simp only [VR]
    exact ⟨cvs, rfl, hr⟩
  | [x], h =>
    refine ⟨x, h, fun φ cvs hr => ?_⟩
    have hl := hr.length
    simp at hl
    rw [dif_pos hl.symm]
    obtain ⟨v, e1, e2⟩ := hr.get (i := 0) rfl
    simp at e1
    obtain ⟨_, rfl⟩ := Array.getElem?_eq_some_iff.1 e1
    exact e2
  | x :: y :: r, h =>
    refine ⟨.tup (x :: y :: r), h, fun φ cvs hr => ?_⟩
    have hl := hr.length
    simp at hl
    rw [dif_neg (by omega)]
    simp only [VR]
    exact ⟨cvs, rfl, hr⟩

/-- functions without a body -/
def PrimsOk (P : Program) (prim : FuncId → Option Prim) : Prop :=
  ∀ f p, prim f = some p → ∀ args h n k, primK p args h n k = true → ∃ v h' n', k v h' n' = true ∧ ∀ (φ : Phi) (cargs : List Value) (w : World), HRel P φ h n w → VRs φ args cargs →
    Does P ((callFunc f cargs.toArray).run P w) (After P φ h n w v h' n')

/-- no function of the program is the one that the machine itself answers -/
def NamesOk (P : Program) : Prop := ∀ (f : FuncId) (fn : Func), P.funcs[f]? = some fn → fn.name ≠ "runtime.NumGoroutine"

theorem call_body {f : FuncId} {fn : Func} {c : Code} (hn : NamesOk P) (hf : P.funcs[f]? = some fn) (hb : fn.body = some c) (args : Array Value) (w : World) : (callFunc f args).run P w = .ok (.enter f args) w := by
  have : (fn.name == "runtime.NumGoroutine") = false := by simpa using hn f fn hf
  simp only [callFunc, Sem.run_bind, run_program, Result.andThen_ok, hf, this, Bool.false_eq_true, if_false, hb, Option.isNone_some, Sem.run_pure]

theorem funC_ok (hd : DrawOk P) (hn : NamesOk P) {prim : FuncId → Option Prim} (hp : PrimsOk P prim) {call : Caller} (hc : CallerOk P call) (f : FuncId) (args : List AV) (h : Hp) (n : Pos) (k : AV → Hp → Pos → Bool) (hk : (funC P prim f).run call args h n k = true) :
    ∃ v h' n', k v h' n' = true ∧ ∀ (φ : Phi) (cargs : List Value) (w : World), HRel P φ h n w → VRs φ args cargs → Does P ((callFunc f cargs.toArray).run P w) (After P φ h n w v h' n') := by
  unfold funC at hk
  cases hpf : prim f with
  | some p => rw [hpf] at hk; exact hp f p hpf _ _ _ _ hk
  | none =>
    rw [hpf] at hk
    simp only at hk
    cases hf : P.funcs[f]? with
    | none => rw [hf] at hk; cases hk
    | some fn =>
      rw [hf] at hk
      simp only at hk
      cases hb : fn.body with
      | none => rw [hb] at hk; cases hk
      | some c =>
        rw [hb] at hk
        obtain ⟨g1, k1⟩ := wK_of hk
        obtain ⟨g2, k2⟩ := wK_of k1
        have g1 := nble_of g1
        have g2 := nble_of g2
        rw [lenN_eq] at g2
        obtain ⟨e, k3, henv⟩ := enter_env g1 g2 k2
        obtain ⟨x, e', h', n', k4, s1⟩ := codeC_ok hd g1 c call hc e h n _ k3
        have fin : (x = .normal ∨ x = .ret) ∧ (resC P fn.ntmps fn.results.toList).run e' h' (fun vs => oneOr vs fun v => k v h' n') = true := by
          rcases exK_of k4 with ⟨rfl, k5⟩ | ⟨j, rfl, k5⟩ | ⟨rfl, k5⟩
          · exact ⟨.inl rfl, k5⟩
          · cases k5
          · exact ⟨.inr rfl, k5⟩
        obtain ⟨hx, k5⟩ := fin
        obtain ⟨vs, k6, hl, hres⟩ := resC_ok _ _ _ _ k5
        obtain ⟨v, k7, hone⟩ := oneOr_of k6
        refine ⟨v, h', n', k7, fun φ cargs w hr ha => ?_⟩
        rw [call_body hn hf hb]
        refine calls_of_wp hf hb (s1 φ _ w _ (henv φ cargs ha) hr fun a' w' ⟨φ', b1, b2, b3, b4⟩ => ?_)
        obtain ⟨cvs, q1, q2⟩ := hres φ' n' a' w' b1 b2
        have hrun : (results fn a'.tmps).run P w' = .ok (if h : cvs.toArray.size = 1 then cvs.toArray[0] else .tuple cvs.toArray) w' := by
          rw [results_eq, Sem.run_bind, Array.mapM_eq_mapM_toList]
          simp only [Sem.run_map, q1, Result.andThen_ok]
          rfl
        have hv := hone φ' cvs.toArray (by simpa using q2)
        rcases hx with rfl | rfl
        · exact ⟨b4, _, hrun, φ', b2, b3, hv⟩
        · exact ⟨b4, _, hrun, φ', b2, b3, hv⟩

/-- calls, so deep at most -/
theorem callD_ok (hd : DrawOk P) (hn : NamesOk P) {prim : FuncId → Option Prim} (hp : PrimsOk P prim) : ∀ d, CallerOk P (callD P prim d)
  | 0 => fun _ _ _ _ _ h => by cases h
  | d + 1 => fun f args h n k hk => funC_ok hd hn hp (callD_ok hd hn hp d) f args h n k hk

/-- A RUN THAT THE KERNEL MADE, of a function without arguments, from no memory of its own. -/
theorem calls_of_run (hd : DrawOk P) (hn : NamesOk P) {prim : FuncId → Option Prim} (hp : PrimsOk P prim) {d : Nat} {f : FuncId} {fn : Func} {c : Code} (hf : P.funcs[f]? = some fn) (hb : fn.body = some c)
    (hk : callD P prim d f [] .L .xH (fun v _ _ => isTrue v) = true) (w : World) :
    Calls P f #[] w fun e w' => e = .returned (.bool true) ∧ w'.tape = w.tape ∧ w'.os = w.os ∧ w'.output = w.output ∧ w.heap.size ≤ w'.heap.size ∧ ∀ b, b < w.heap.size → w'.heap[b]? = w.heap[b]? := by
  obtain ⟨v, h', n', h1, h2⟩ := callD_ok hd hn hp d f [] .L .xH _ hk
  obtain ⟨x, rfl, rfl⟩ := asB_of h1
  have hr : HRel P (fun _ => none) .L .xH w := ⟨fun id B e => by rw [get_L] at e; exact absurd e (by simp), fun id id' B B' x x' e => by rw [get_L] at e; exact absurd e (by simp), fun id x e => by exact absurd e (by simp)⟩
  have := h2 (fun _ => none) [] w hr (by simp [VRs])
  rw [call_body hn hf hb] at this
  refine Calls.mono this fun e w' he => ?_
  cases e with
  | returned v =>
    obtain ⟨φ', b1, b2, b3⟩ := he
    simp only [VR] at b3
    subst b3
    exact ⟨rfl, b2.tape, b2.os, b2.out, b2.size, fun b hb => b2.old b hb fun id x i => by rw [get_L] at i; cases i⟩
  | panicked c => exact he.elim
  | outgrown => exact he.elim

end
end Go.Am
