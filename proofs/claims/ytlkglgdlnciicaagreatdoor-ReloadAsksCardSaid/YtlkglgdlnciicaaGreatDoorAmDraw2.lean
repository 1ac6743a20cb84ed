/- Regions that draw their order: the run in the text's order, step by step. -/
import Derived.Test.YtlkglgdlnciicaaGreatDoorAmDraw1
set_option linter.all false
namespace Go.Am
open Go

section
variable {P : Program}

/-! who writes, who reads -/
def Wr (ops : Array Oper) (j : Nat) (t : PT Nat) : Prop := ∀ d i, d ≤ 100000 → (PT.get (posOf d) t = some i ↔ i < j ∧ ∃ o, ops[i]? = some o ∧ o.dst = some d)

theorem writersK_of {ops : Array Oper} {k : PT Nat → Bool} : ∀ (os : List Oper) (j : Nat) (t : PT Nat), ops.toList.drop j = os → Wr ops j t → writersK k os j t = true →
    ∃ t', k t' = true ∧ Wr ops ops.size t'
  | [], j, t, hd, hw, h => by
    refine ⟨t, h, fun d i hdl => (hw d i hdl).trans ⟨fun ⟨a, b⟩ => ⟨?_, b⟩, fun ⟨a, b⟩ => ⟨?_, b⟩⟩⟩
    · obtain ⟨o, ho, _⟩ := b
      exact (Array.getElem?_eq_some_iff.1 ho).1
    · have : ops.size ≤ j := by
        have := congrArg List.length hd
        simp at this
        omega
      omega
  | o :: os, j, t, hd, hw, h => by
    have ho : ops[j]? = some o := by
      have : (ops.toList.drop j)[0]? = some o := by rw [hd]; rfl
      rw [List.getElem?_drop] at this
      simpa using this
    have hd' : ops.toList.drop (j + 1) = os := by rw [← List.drop_drop, hd]; rfl
    unfold writersK at h
    cases hdst : o.dst with
    | none =>
      rw [hdst] at h
      refine writersK_of os (j + 1) t hd' (fun d i hdl => (hw d i hdl).trans ⟨fun ⟨a, b⟩ => ⟨by omega, b⟩, fun ⟨a, b⟩ => ⟨?_, b⟩⟩) h
      by_cases hij : i = j
      · subst hij
        obtain ⟨o', ho', hd2⟩ := b
        rw [ho] at ho'
        injection ho' with ho'
        subst ho'
        rw [hdst] at hd2
        cases hd2
      · omega
    | some d0 =>
      rw [hdst] at h
      obtain ⟨h1, h2⟩ := wK_of h
      have h1 := nble_of h1
      have h3 := setK_of h2
      rcases lookK_of h3 with ⟨hnone, h4⟩ | ⟨v, _, h4⟩
      · refine writersK_of os (j + 1) _ hd' (fun d i hdl => ?_) h4
        by_cases hdd : d = d0
        · subst hdd
          rw [get_set_same]
          constructor
          · intro he
            injection he with he
            subst he
            exact ⟨by omega, o, ho, hdst⟩
          · rintro ⟨hi, o', ho', hd2⟩
            by_cases hij : i = j
            · rw [hij]
            · have := (hw d i hdl).2 ⟨by omega, o', ho', hd2⟩
              rw [hnone] at this
              cases this
        · rw [get_set_ne _ _ _ _ (fun hp => hdd (posOf_inj (by omega) (by omega) hp).symm), hw d i hdl]
          constructor
          · exact fun ⟨a, b⟩ => ⟨by omega, b⟩
          · rintro ⟨a, o', ho', hd2⟩
            refine ⟨?_, o', ho', hd2⟩
            by_cases hij : i = j
            · subst hij
              rw [ho] at ho'
              injection ho' with ho'
              subst ho'
              rw [hdst] at hd2
              injection hd2 with hd2
              exact absurd hd2.symm hdd
            · omega
      · cases h4

/-- a slot read by operation j: its writer stands ahead, or behind -/
def ReadGood (ops : Array Oper) (ah : List Nat) (j d : Nat) : Prop :=
  ∀ i o, ops[i]? = some o → o.dst = some d → (i < j ∧ (ah.getD j 0).testBit i = true) ∨ (j < i ∧ (ah.getD i 0).testBit j = true)

def Reads (ops : Array Oper) (o : Oper) (d : Nat) : Prop := Operand.tmp d ∈ o.op.operands.toList ∨ ∃ g b x, o.guard = some (g, b) ∧ ops[g]? = some x ∧ x.dst = some d

theorem readOk_of {ops : Array Oper} {ah : List Nat} {t : PT Nat} (hw : Wr ops ops.size t) {j d : Nat} (h : readOk ah j t d = true) : ReadGood ops ah j d := by
  unfold readOk at h
  rw [Bool.and_eq_true] at h
  obtain ⟨h1, h2⟩ := h
  have h1 := nble_of h1
  intro i o ho hd
  have hg := (hw d i h1).2 ⟨(Array.getElem?_eq_some_iff.1 ho).1, o, ho, hd⟩
  rcases lookK_of h2 with ⟨hn, _⟩ | ⟨v, hv, h3⟩
  · rw [hn] at hg; cases hg
  · rw [hv] at hg
    injection hg with hg
    subst hg
    rcases bK_of h3 with ⟨a, b⟩ | ⟨_, h4⟩
    · exact .inl ⟨nble_of a, b⟩
    · rcases bK_of h4 with ⟨a, b⟩ | ⟨_, b⟩
      · exact .inr ⟨nble_of a, b⟩
      · cases b

theorem readsOk_of {ops : Array Oper} {ah : List Nat} {t : PT Nat} (hw : Wr ops ops.size t) {j : Nat} : ∀ {xs : List Operand}, readsOk ah j t xs = true → ∀ d, Operand.tmp d ∈ xs → ReadGood ops ah j d
  | [], _, d, hd => by cases hd
  | x :: xs, h, d, hd => by
    cases x with
    | tmp d' =>
      simp only [readsOk, Bool.and_eq_true] at h
      rcases List.mem_cons.1 hd with he | hd
      · injection he with he
        subst he
        exact readOk_of hw h.1
      · exact readsOk_of hw h.2 d hd
    | _ =>
      have h' : readsOk ah j t xs = true := h
      rcases List.mem_cons.1 hd with he | hd
      · cases he
      · exact readsOk_of hw h' d hd

theorem allReads_of {ops : Array Oper} {ah : List Nat} {t : PT Nat} (hw : Wr ops ops.size t) : ∀ (os : List Oper) (j : Nat), ops.toList.drop j = os → allReadsOk ops ah t os j = true → ∀ i o, j ≤ i → ops[i]? = some o → ∀ d, Reads ops o d → ReadGood ops ah i d
  | [], j, hd, _, i, o, hi, ho, d, _ => by
    have h1 := (Array.getElem?_eq_some_iff.1 ho).1
    have := congrArg List.length hd
    simp at this
    omega
  | x :: os, j, hd, h, i, o, hi, ho, d, hr => by
    have hx : ops[j]? = some x := by
      have : (ops.toList.drop j)[0]? = some x := by rw [hd]; rfl
      rw [List.getElem?_drop] at this
      simpa using this
    have hd' : ops.toList.drop (j + 1) = os := by rw [← List.drop_drop, hd]; rfl
    simp only [allReadsOk, Bool.and_eq_true] at h
    obtain ⟨h1, h2, h3⟩ := h
    by_cases hij : i = j
    · subst hij
      rw [hx] at ho
      injection ho with ho
      subst ho
      rcases hr with hr | ⟨g, b, y, e1, e2, e3⟩
      · exact readsOk_of hw h1 d hr
      · unfold guardOk at h2
        rw [e1] at h2
        simp only [e2, e3] at h2
        exact readOk_of hw h2
    · exact allReads_of hw os (j + 1) hd' h3 i o (by omega) ho d hr

/-! reading only some slots -/
def ReadsR (φ : Phi) (nt : Nat) (e : Env) (a : Act) (d : Nat) : Prop := ∀ v, d < nt → PT.get (posOf d) e = some v → ∃ cv, a.tmps[d]? = some cv ∧ VR φ v cv

theorem ReadsR.slot {φ : Phi} {nt d : Nat} {p : Pos} {e : Env} {a : Act} {v : AV} (h : ReadsR φ nt e a d) (hp : slotOf nt d = some p) (hv : PT.get p e = some v) : VR φ v (a.tmps.getD d undef) := by
  obtain ⟨ht, rfl⟩ := slotOf_of hp
  obtain ⟨cv, h1, h2⟩ := h v ht hv
  rw [Array.getD_eq_getD_getElem?, h1]
  exact h2

theorem opndsC_of {nt : Nat} : ∀ {xs : List Operand} {e : Env} {k : List AV → Bool}, (opndsC nt xs).run e k = true →
    ∃ vs, k vs = true ∧ ∀ (φ : Phi) (a : Act), (∀ d, Operand.tmp d ∈ xs → ReadsR φ nt e a d) → VRs φ vs (xs.map a.eval)
  | [], e, k, h => ⟨[], h, fun φ a _ => by simp [VRs]⟩
  | x :: xs, e, k, h => by
    have h' : (opndC nt x).run e (fun v => (opndsC nt xs).run e fun vs => k (v :: vs)) = true := h
    have h1 : ∃ v, (opndsC nt xs).run e (fun vs => k (v :: vs)) = true ∧ ∀ (φ : Phi) (a : Act), (∀ d, x = Operand.tmp d → ReadsR φ nt e a d) → VR φ v (a.eval x) := by
      cases x with
      | tmp t =>
        unfold opndC at h'
        simp only at h'
        cases hs : slotOf nt t with
        | none => rw [hs] at h'; cases h'
        | some p =>
          rw [hs] at h'
          obtain ⟨v, hv, hk⟩ := getK_of h'
          exact ⟨v, hk, fun φ a ha => (ha t rfl).slot hs hv⟩
      | const c =>
        unfold opndC at h'
        simp only at h'
        cases hs : ofV c with
        | none => rw [hs] at h'; cases h'
        | some v =>
          rw [hs] at h'
          exact ⟨v, h', fun φ a _ => ofV_VR hs⟩
      | global g => cases h'
      | func f =>
        refine ⟨_, h', fun φ a _ => ?_⟩
        simp only [VR]
        exact ⟨#[], #[], rfl, by simp [VRs], by simp [VRs]⟩
    obtain ⟨v, h2, h3⟩ := h1
    obtain ⟨vs, h4, h5⟩ := opndsC_of h2
    exact ⟨v :: vs, h4, fun φ a ha => VRs.cons (h3 φ a fun d hd => ha d (by simp [hd])) (h5 φ a fun d hd => ha d (by simp [hd]))⟩

theorem putC_of {nt : Nat} (hnt : nt ≤ 100000) {d : Option Nat} {e : Env} {v : AV} {k : Env → Bool} (h : (putC nt d).run e v k = true) :
    ∃ e', k e' = true ∧ (∀ t, d = some t → t < nt) ∧ ∀ t, t < nt → PT.get (posOf t) e' = if d = some t then some v else PT.get (posOf t) e := by
  cases d with
  | none => exact ⟨e, h, by simp, fun t _ => by simp⟩
  | some t =>
    unfold putC at h
    simp only at h
    cases hs : slotOf nt t with
    | none => rw [hs] at h; cases h
    | some p =>
      rw [hs] at h
      have h1 := setK_of h
      obtain ⟨ht, rfl⟩ := slotOf_of hs
      refine ⟨_, h1, fun u hu => by injection hu with hu; omega, fun u hu => ?_⟩
      by_cases hut : t = u
      · subst hut
        rw [get_set_same, if_pos rfl]
      · rw [get_set_ne _ _ _ _ (fun hp => hut (posOf_inj (by omega) (by omega) hp)), if_neg (by simpa using hut)]

theorem wantC_of {nt : Nat} {ops : Array Oper} {o : Oper} {j : Nat} {want : Bool} (hg : o.guard = some (j, want)) {e : Env} {y n : Bool} (h : (wantC nt ops o).run e y n = true) :
    ∃ r : Bool, (if r then y else n) = true ∧ ∀ (φ : Phi) (a : Act), (∀ d, Reads ops o d → ReadsR φ nt e a d) → Region.wanted o (yielded ops a.tmps) = r := by
  unfold wantC at h
  rw [hg] at h
  simp only at h
  cases hj : ops[j]? with
  | none => rw [hj] at h; cases h
  | some g =>
    rw [hj] at h
    simp only at h
    cases hd : g.dst with
    | none => rw [hd] at h; cases h
    | some t =>
      rw [hd] at h
      simp only at h
      cases hs : slotOf nt t with
      | none => rw [hs] at h; cases h
      | some p =>
        rw [hs] at h
        obtain ⟨v, hv, hk⟩ := getK_of h
        obtain ⟨ht, rfl⟩ := slotOf_of hs
        have wan : ∀ (φ : Phi) (a : Act), (∀ d, Reads ops o d → ReadsR φ nt e a d) → ∃ cv, a.tmps[t]? = some cv ∧ VR φ v cv ∧ Region.wanted o (yielded ops a.tmps) = ((match cv with | .bool b => some b | _ => none) == some want) := by
          intro φ a ha
          obtain ⟨cv, h1, h2⟩ := ha t (.inr ⟨j, want, g, hg, hj, hd⟩) v ht hv
          refine ⟨cv, h1, h2, ?_⟩
          simp only [Region.wanted, hg, yielded, hj, Option.bind_some, hd, h1]
          cases cv <;> rfl
        by_cases hb : ∃ x, v = .b x
        · obtain ⟨x, rfl⟩ := hb
          have hk' : bK (bK x want (notB want)) y n = true := hk
          refine ⟨x == want, ?_, fun φ a ha => ?_⟩
          · rcases bK_of hk' with ⟨h1, h2⟩ | ⟨h1, h2⟩
            · have : (x == want) = true := by cases x <;> cases want <;> first | rfl | cases h1
              rw [this]
              exact h2
            · have : (x == want) = false := by cases x <;> cases want <;> first | rfl | cases h1
              rw [this]
              exact h2
          · obtain ⟨cv, _, h2, h3⟩ := wan φ a ha
            simp only [VR] at h2
            subst h2
            rw [h3]
            cases x <;> cases want <;> rfl
        · refine ⟨false, ?_, fun φ a ha => ?_⟩
          · cases v <;> first | exact hk | exact absurd ⟨_, rfl⟩ hb
          · obtain ⟨cv, _, h2, h3⟩ := wan φ a ha
            rw [h3]
            cases cv <;> first | rfl | skip
            rename_i b0
            exfalso
            cases v <;> simp only [VR] at h2 <;> first | exact absurd ⟨_, rfl⟩ hb | (cases h2; done) | (obtain ⟨_, h2, _⟩ := h2; cases h2; done) | (obtain ⟨_, _, _, _, h2⟩ := h2; cases h2; done) | (obtain ⟨_, _, h2, _⟩ := h2; cases h2; done) | (obtain ⟨_, _, _, _, _, _, h2, _⟩ := h2; cases h2; done)

/-! the steps -/
structure DSt where
  e : Env
  h : Hp
  n : Pos
  r : Pos
  k : Nat
  ps : List Pend
  ls : List Look
  hs : List Hp

def flushPs (k : Nat) (ps : List Pend) : List Pend := ps.filter fun p => !Nat.ble p.hi k
def flushH (k : Nat) (ps : List Pend) (h : Hp) : Hp := ps.foldr (fun p h => if Nat.ble p.hi k then PT.set (some p.blk) p.id h else h) h

theorem flushK_of {k : Nat} : ∀ {ps : List Pend} {h : Hp} {c : List Pend → Hp → Bool}, flushK k ps h c = true → c (flushPs k ps) (flushH k ps h) = true
  | [], h, c, hk => hk
  | p :: ps, h, c, hk => by
    have h' : flushK k ps h (fun r h' => bK (Nat.ble p.hi k) (PT.setK p.id (some p.blk) h' fun h2 => c r h2) (c (p :: r) h')) = true := hk
    have h1 := flushK_of h'
    rcases bK_of h1 with ⟨hb, h2⟩ | ⟨hb, h2⟩
    · have h3 := setK_of h2
      have hle := nble_of hb
      simpa [flushPs, flushH, hb, hle] using h3
    · have hle : ¬ p.hi ≤ k := fun hh => by rw [Nat.ble_eq_true_of_le hh] at hb; cases hb
      simpa [flushPs, flushH, hb, hle] using h2

/-- a new value of the slot written -/
def PutR (nt : Nat) (d : Option Nat) (v : AV) (e e' : Env) : Prop := (∀ t, d = some t → t < nt) ∧ ∀ t, t < nt → PT.get (posOf t) e' = if d = some t then some v else PT.get (posOf t) e

def EnvP (φ : Phi) (nt : Nat) (ops : Array Oper) (o : Oper) (e : Env) (a : Act) : Prop := ∀ d, Reads ops o d → ReadsR φ nt e a d

inductive DStep (P : Program) (nt : Nat) (ops : Array Oper) (o : Oper) (lo hi : Nat) : DSt → DSt → Prop where
  | skip (s : DSt) (e' : Env) (hw : ∀ φ a, EnvP φ nt ops o s.e a → Region.wanted o (yielded ops a.tmps) = false) (hp : PutR nt o.dst undefA s.e e') (hl : (okC P o.op).isLoud = false) : DStep P nt ops o lo hi s { s with e := e' }
  | skipLoud (s : DSt) (e' : Env) (hw : ∀ φ a, EnvP φ nt ops o s.e a → Region.wanted o (yielded ops a.tmps) = false) (hp : PutR nt o.dst undefA s.e e') (hl : (okC P o.op).isLoud = true) :
    DStep P nt ops o lo hi s { s with e := e', k := s.k + 1, hs := s.h :: s.hs }
  | quiet (s : DSt) (e' : Env) (v : AV) (hw : ∀ φ a, EnvP φ nt ops o s.e a → Region.wanted o (yielded ops a.tmps) = true) (hp : PutR nt o.dst v s.e e') (hl : (okC P o.op).isLoud = false)
    (act : ∀ φ a w, EnvP φ nt ops o s.e a → ∃ cv, (execOp a.eval o).run P w = .ok (.value cv) w ∧ VR φ v cv) : DStep P nt ops o lo hi s { s with e := e' }
  | fixed (s : DSt) (e' : Env) (v : AV) (hw : ∀ φ a, EnvP φ nt ops o s.e a → Region.wanted o (yielded ops a.tmps) = true) (hp : PutR nt o.dst v s.e e') (hl : (okC P o.op).isLoud = false)
    (hlo : lo = s.k) (hhi : lo = hi) (act : ∀ φ n a w, EnvP φ nt ops o s.e a → HRel P φ s.h n w → ∃ cv, (execOp a.eval o).run P w = .ok (.value cv) w ∧ VR φ v cv) : DStep P nt ops o lo hi s { s with e := e' }
  | look (s : DSt) (e' : Env) (v : AV) (f : ReadC) (vs : List AV) (hw : ∀ φ a, EnvP φ nt ops o s.e a → Region.wanted o (yielded ops a.tmps) = true) (hp : PutR nt o.dst v s.e e') (hl : (okC P o.op).isLoud = false)
    (act : ∀ h, f.run vs h (fun u => avEq v u) = true → ∀ φ n a w, EnvP φ nt ops o s.e a → HRel P φ h n w → ∃ cv, (execOp a.eval o).run P w = .ok (.value cv) w ∧ VR φ v cv) :
    DStep P nt ops o lo hi s { s with e := e', ls := ⟨f, vs, v, lo, hi⟩ :: s.ls }
  | alloc (s : DSt) (e' : Env) (B : ABlk) (v : AV) (hw : ∀ φ a, EnvP φ nt ops o s.e a → Region.wanted o (yielded ops a.tmps) = true) (hp : PutR nt o.dst v s.e e') (hl : (okC P o.op).isLoud = false) (ha : ∃ f, okC P o.op = .alloc f)
    (act : ∀ φ a w, EnvP φ nt ops o s.e a → ∃ cv obj room, (execOp a.eval o).run P w = .ok (.value cv) (w.alloc obj) ∧ NewB φ room obj B ∧ ∀ φ', φ' s.r = some (w.heap.size, 0, room) → VR φ' v cv) :
    DStep P nt ops o lo hi s { s with e := e', r := s.r.nxt, ps := ⟨s.r, B, hi⟩ :: s.ps }
  | loud (s : DSt) (e' : Env) (v : AV) (h2 : Hp) (n2 : Pos) (hw : ∀ φ a, EnvP φ nt ops o s.e a → Region.wanted o (yielded ops a.tmps) = true) (hp : PutR nt o.dst v s.e e') (hl : (okC P o.op).isLoud = true)
    (act : ∀ φ a w, EnvP φ nt ops o s.e a → HRel P φ (flushH s.k s.ps s.h) s.n w → Does P ((execOp a.eval o).run P w) (After P φ (flushH s.k s.ps s.h) s.n w v h2 n2)) :
    DStep P nt ops o lo hi s { s with e := e', h := h2, n := n2, k := s.k + 1, ps := flushPs s.k s.ps, hs := h2 :: s.hs }

def DrawC.at (f : DrawC) (call : Caller) (s : DSt) (c : Env → Hp → Pos → Pos → Nat → List Pend → List Look → List Hp → Bool) : Bool := f.run call s.e s.h s.n s.r s.k s.ps s.ls s.hs c
def atSt (c : Env → Hp → Pos → Pos → Nat → List Pend → List Look → List Hp → Bool) (s : DSt) : Bool := c s.e s.h s.n s.r s.k s.ps s.ls s.hs

theorem EnvP.opnds {φ : Phi} {nt : Nat} {ops : Array Oper} {o : Oper} {e : Env} {a : Act} (h : EnvP φ nt ops o e a) : ∀ d, Operand.tmp d ∈ o.op.operands.toList → ReadsR φ nt e a d := fun d hd => h d (.inl hd)

theorem dopC_of {nt : Nat} (hnt : nt ≤ 100000) {ops : Array Oper} {o : Oper} {lo hi : Nat} {s : DSt} (hw : ∀ φ a, EnvP φ nt ops o s.e a → Region.wanted o (yielded ops a.tmps) = true) {call : Caller} (hc : CallerOk P call) {c : Env → Hp → Pos → Pos → Nat → List Pend → List Look → List Hp → Bool}
    (h : (dopC P nt o lo hi).at call s c = true) : ∃ s', DStep P nt ops o lo hi s s' ∧ atSt c s' = true := by
  have hok := okC_ok (P := P) o.op
  unfold dopC DrawC.at at h
  cases hf : okC P o.op with
  | pure f =>
    rw [hf] at h hok
    obtain ⟨vs, h1, hvs⟩ := opndsC_of h
    obtain ⟨v, h2, hv⟩ := hok _ _ h1
    obtain ⟨e', h3, hp⟩ := putC_of hnt h2
    exact ⟨_, .quiet s e' v hw hp (by rw [hf]; rfl) fun φ a w ha => hv φ a.eval o w rfl (hvs φ a ha.opnds), h3⟩
  | read f =>
    rw [hf] at h hok
    simp only at h
    cases hlh : Nat.beq lo hi with
    | true =>
      rw [hlh] at h
      obtain ⟨g1, h0⟩ := wK_of h
      obtain ⟨vs, h1, hvs⟩ := opndsC_of h0
      obtain ⟨v, h2, hv⟩ := hok _ _ _ h1
      obtain ⟨e', h3, hp⟩ := putC_of hnt h2
      exact ⟨_, .fixed s e' v hw hp (by rw [hf]; rfl) (nbeq_of g1) (nbeq_of hlh) fun φ n a w ha hr => hv φ n a.eval o w rfl hr (hvs φ a ha.opnds), h3⟩
    | false =>
      rw [hlh] at h
      obtain ⟨vs, h1, hvs⟩ := opndsC_of h
      obtain ⟨v, h2, _⟩ := hok _ _ _ h1
      obtain ⟨e', h3, hp⟩ := putC_of hnt h2
      refine ⟨_, .look s e' v f vs hw hp (by rw [hf]; rfl) ?_, h3⟩
      intro h' hrun φ n a w ha hr
      obtain ⟨u, hu, hv⟩ := hok _ _ _ hrun
      have := avEq_of hu
      subst this
      exact hv φ n a.eval o w rfl hr (hvs φ a ha.opnds)
  | alloc f =>
    rw [hf] at h hok
    obtain ⟨vs, h1, hvs⟩ := opndsC_of h
    obtain ⟨b, mk, h2, hv⟩ := hok _ _ h1
    have h2' := succK_of h2
    obtain ⟨e', h3, hp⟩ := putC_of hnt h2'
    refine ⟨_, .alloc s e' b (mk s.r) hw hp (by rw [hf]; rfl) ⟨f, hf⟩ fun φ a w ha => ?_, h3⟩
    obtain ⟨cv, obj, room, a1, a2, a3⟩ := hv φ a.eval o w rfl (hvs φ a ha.opnds)
    exact ⟨cv, obj, room, a1, a2, fun φ' hφ => a3 φ' s.r hφ⟩
  | loud f =>
    rw [hf] at h hok
    obtain ⟨vs, h1, hvs⟩ := opndsC_of h
    have h1' := flushK_of h1
    obtain ⟨v, h2, n2, h3, hv⟩ := hok call hc _ _ _ _ h1'
    obtain ⟨e', h4, hp⟩ := putC_of hnt h3
    exact ⟨_, .loud s e' v h2 n2 hw hp (by rw [hf]; rfl) fun φ a w ha hr => hv φ a.eval o w rfl hr (hvs φ a ha.opnds), h4⟩

theorem dstepC_of {nt : Nat} (hnt : nt ≤ 100000) {ops : Array Oper} {o : Oper} {lo hi : Nat} {call : Caller} (hc : CallerOk P call) {s : DSt} {c : Env → Hp → Pos → Pos → Nat → List Pend → List Look → List Hp → Bool}
    (h : (dstepC P nt ops o lo hi).at call s c = true) : ∃ s', DStep P nt ops o lo hi s s' ∧ atSt c s' = true := by
  unfold dstepC at h
  cases hg : o.guard with
  | none =>
    rw [hg] at h
    exact dopC_of hnt (fun φ a _ => by simp [Region.wanted, hg]) hc h
  | some g =>
    obtain ⟨j, want⟩ := g
    rw [hg] at h
    have h' : (wantC nt ops o).run s.e ((dopC P nt o lo hi).at call s c) ((skipC P nt o).at call s c) = true := h
    obtain ⟨r, h1, h2⟩ := wantC_of hg h'
    cases r with
    | true =>
      rw [if_pos rfl] at h1
      obtain ⟨s', q1, q2⟩ := dopC_of hnt (s := s) (fun φ a ha => h2 φ a ha) hc h1
      exact ⟨s', q1, q2⟩
    | false =>
      rw [if_neg (by simp)] at h1
      unfold skipC DrawC.at at h1
      cases hl : (okC P o.op).isLoud with
      | true =>
        rw [hl] at h1
        obtain ⟨e', h3, hp⟩ := putC_of hnt h1
        exact ⟨_, .skipLoud s e' (fun φ a ha => h2 φ a ha) hp hl, h3⟩
      | false =>
        rw [hl] at h1
        obtain ⟨e', h3, hp⟩ := putC_of hnt h1
        exact ⟨_, .skip s e' (fun φ a ha => h2 φ a ha) hp hl, h3⟩

/-- the states of the run in the text's order -/
theorem drawC_of {nt : Nat} (hnt : nt ≤ 100000) {ops : Array Oper} {ah ld : List Nat} {call : Caller} (hc : CallerOk P call) {c : Env → Hp → Pos → Pos → Nat → List Pend → List Look → List Hp → Bool} :
    ∀ (os : List Oper) (j : Nat) (s : DSt), ops.toList.drop j = os → (drawC P nt ops ah ld os j).at call s c = true →
      ∃ st : Nat → DSt, st j = s ∧ atSt c (st ops.size) = true ∧ ∀ i o, j ≤ i → ops[i]? = some o → DStep P nt ops o (countIn (ah.getD i 0) ld) (notBehind ah i ld) (st i) (st (i + 1))
  | [], j, s, hd, h => by
    have hle : ops.size ≤ j := by
      have := congrArg List.length hd
      simp at this
      omega
    refine ⟨fun _ => s, rfl, h, fun i o hi ho => ?_⟩
    have := (Array.getElem?_eq_some_iff.1 ho).1
    omega
  | o :: os, j, s, hd, h => by
    have ho : ops[j]? = some o := by
      have : (ops.toList.drop j)[0]? = some o := by rw [hd]; rfl
      rw [List.getElem?_drop] at this
      simpa using this
    have hd' : ops.toList.drop (j + 1) = os := by rw [← List.drop_drop, hd]; rfl
    obtain ⟨s', h1, h2⟩ := dstepC_of hnt hc (c := fun e h n r k ps ls hs => (drawC P nt ops ah ld os (j + 1)).run call e h n r k ps ls hs c) h
    obtain ⟨st, q1, q2, q3⟩ := drawC_of hnt hc os (j + 1) s' hd' h2
    have hj : j < ops.size := (Array.getElem?_eq_some_iff.1 ho).1
    refine ⟨fun i => if i ≤ j then s else st i, by simp, ?_, fun i o' hi ho' => ?_⟩
    · simp only
      rw [if_neg (by omega)]
      exact q2
    · simp only
      by_cases hij : i = j
      · subst hij
        rw [ho] at ho'
        injection ho' with ho'
        subst ho'
        rw [if_pos (Nat.le_refl _), if_neg (by omega), q1]
        exact h1
      · rw [if_neg (by omega), if_neg (by omega)]
        exact q3 i o' (by omega) ho'

end
end Go.Am
