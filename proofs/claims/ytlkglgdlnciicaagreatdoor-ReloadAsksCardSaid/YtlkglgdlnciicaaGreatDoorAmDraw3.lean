/- Regions that draw their order: facts of the text's run. -/
import Derived.Test.YtlkglgdlnciicaaGreatDoorAmDraw2
set_option linter.all false
namespace Go.Am
open Go

section
variable {P : Program} {nt : Nat} {ops : Array Oper} {ah ld : List Nat} {st : Nat → DSt}

/-- the run in the text's order -/
def TextRun (P : Program) (nt : Nat) (ops : Array Oper) (ah ld : List Nat) (st : Nat → DSt) : Prop :=
  ∀ i o, ops[i]? = some o → DStep P nt ops o (countIn (ah.getD i 0) ld) (notBehind ah i ld) (st i) (st (i + 1))

theorem op_at {j : Nat} (h : j < ops.size) : ∃ o, ops[j]? = some o ∧ ops.toList[j]? = some o := ⟨ops[j], by simp [h], by simp [h]⟩

theorem run_k (hr : TextRun P nt ops ah ld st) (h0 : (st 0).k = 0) : ∀ j, j ≤ ops.size → (st j).k = before P ops.toList j
  | 0, _ => by rw [h0]; cases ops.toList <;> rfl
  | j + 1, hj => by
    obtain ⟨o, ho, ho'⟩ := op_at (ops := ops) (j := j) (by omega)
    have ih := run_k hr h0 j (by omega)
    rw [before_succ _ j o ho', ← ih]
    have h := hr j o ho
    generalize st (j + 1) = s' at h
    cases h <;> simp_all

theorem run_quiet (hr : TextRun P nt ops ah ld st) {j : Nat} {o : Oper} (ho : ops[j]? = some o) (hl : (okC P o.op).isLoud = false) : (st (j + 1)).h = (st j).h ∧ (st (j + 1)).n = (st j).n ∧ (st (j + 1)).hs = (st j).hs := by
  have h := hr j o ho
  generalize st (j + 1) = s' at h
  cases h <;> first | exact ⟨rfl, rfl, rfl⟩ | (rw [hl] at *; contradiction)

theorem run_same (hr : TextRun P nt ops ah ld st) : ∀ (j i : Nat), i ≤ j → j ≤ ops.size → before P ops.toList i = before P ops.toList j → (st i).h = (st j).h ∧ (st i).n = (st j).n ∧ (st i).hs = (st j).hs
  | 0, i, hi, _, _ => by rw [Nat.le_zero.1 hi]; exact ⟨rfl, rfl, rfl⟩
  | j + 1, i, hi, hj, hb => by
    by_cases hij : i = j + 1
    · rw [hij]; exact ⟨rfl, rfl, rfl⟩
    · obtain ⟨o, ho, ho'⟩ := op_at (ops := ops) (j := j) (by omega)
      have h1 := before_succ (P := P) _ j o ho'
      have h2 := before_mono (P := P) ops.toList i j (by omega) (by simp; omega)
      cases hl : (okC P o.op).isLoud with
      | true => rw [hl] at h1; simp only at h1; omega
      | false =>
        rw [hl] at h1
        obtain ⟨a, b, c⟩ := run_same hr j i (by omega) (by omega) (by simp only at h1; omega)
        obtain ⟨a', b', c'⟩ := run_quiet hr ho hl
        exact ⟨a.trans a'.symm, b.trans b'.symm, c.trans c'.symm⟩

theorem run_same' (hr : TextRun P nt ops ah ld st) {i j : Nat} (hi : i ≤ ops.size) (hj : j ≤ ops.size) (hb : before P ops.toList i = before P ops.toList j) : (st i).h = (st j).h ∧ (st i).n = (st j).n ∧ (st i).hs = (st j).hs := by
  by_cases h : i ≤ j
  · exact run_same hr j i h hj hb
  · obtain ⟨a, b, c⟩ := run_same hr i j (by omega) hi hb.symm
    exact ⟨a.symm, b.symm, c.symm⟩

/-- identities laid by are taken one by one -/
theorem run_r (hr : TextRun P nt ops ah ld st) : ∀ (j i : Nat), i ≤ j → j ≤ ops.size → (st i).r.num ≤ (st j).r.num
  | 0, i, hi, _ => by rw [Nat.le_zero.1 hi]; exact Nat.le_refl _
  | j + 1, i, hi, hj => by
    by_cases hij : i = j + 1
    · rw [hij]; exact Nat.le_refl _
    · obtain ⟨o, ho, _⟩ := op_at (ops := ops) (j := j) (by omega)
      refine Nat.le_trans (run_r hr j i (by omega) (by omega)) ?_
      have h := hr j o ho
      generalize st (j + 1) = s' at h
      cases h <;> first | exact Nat.le_refl _ | (simp only [Pos.num_nxt]; omega)

/-- memory that operation i makes -/
structure AllocAt (ah ld : List Nat) (st : Nat → DSt) (i : Nat) (p : Pend) : Prop where
  ps : (st (i + 1)).ps = p :: (st i).ps
  id : p.id = (st i).r
  r : (st (i + 1)).r = (st i).r.nxt
  hi : p.hi = notBehind ah i ld

theorem alloc_ids (hr : TextRun P nt ops ah ld st) {i j : Nat} {p q : Pend} (hi : i < ops.size) (hj : j < ops.size) (hp : AllocAt ah ld st i p) (hq : AllocAt ah ld st j q) (h : p.id = q.id) : i = j := by
  have key : ∀ {i j : Nat} {p q : Pend}, j < ops.size → AllocAt ah ld st i p → AllocAt ah ld st j q → i < j → p.id ≠ q.id := by
    intro i j p q hj hp hq hij he
    have := run_r hr j (i + 1) hij (by omega)
    rw [hp.r, Pos.num_nxt, ← hp.id, he, hq.id] at this
    omega
  rcases Nat.lt_trichotomy i j with h1 | h1 | h1
  · exact absurd h (key hj hp hq h1)
  · exact h1
  · exact absurd h.symm (key hi hq hp h1)

theorem alloc_same {i : Nat} {p q : Pend} (hp : AllocAt ah ld st i p) (hq : AllocAt ah ld st i q) : p = q := by
  have := hp.ps.symm.trans hq.ps
  injection this

/-- each step's memory -/
theorem run_ps (hr : TextRun P nt ops ah ld st) {j : Nat} {o : Oper} (ho : ops[j]? = some o) : (st (j + 1)).ps = (st j).ps ∨ (∃ p, AllocAt ah ld st j p ∧ (okC P o.op).isLoud = false) ∨ ((okC P o.op).isLoud = true ∧ (st (j + 1)).ps = flushPs (st j).k (st j).ps) := by
  have h := hr j o ho
  generalize hs : st (j + 1) = s' at h
  cases h <;> first | exact .inl rfl | skip
  · exact .inr (.inl ⟨_, ⟨by rw [hs], rfl, by rw [hs], rfl⟩, by assumption⟩)
  · exact .inr (.inr ⟨by assumption, rfl⟩)

theorem alloc_quiet (hr : TextRun P nt ops ah ld st) {j : Nat} {o : Oper} {p : Pend} (ho : ops[j]? = some o) (hp : AllocAt ah ld st j p) : (okC P o.op).isLoud = false ∧ ∃ f, okC P o.op = .alloc f := by
  have h := hr j o ho
  have hl := congrArg List.length hp.ps
  generalize hs : st (j + 1) = s' at h hl
  cases h with
  | alloc e' B v hw hp2 hl2 ha act => exact ⟨hl2, ha⟩
  | loud e' v h2 n2 hw hp2 hl2 act =>
    have := List.length_filter_le (fun p => !Nat.ble p.hi (st j).k) (st j).ps
    simp [flushPs] at hl
    omega
  | _ => simp at hl

theorem ps_back (hr : TextRun P nt ops ah ld st) {i : Nat} {p : Pend} (hp : AllocAt ah ld st i p) : ∀ (l j : Nat), i < j → j ≤ l → l ≤ ops.size → p ∈ (st l).ps → p ∈ (st j).ps
  | 0, j, h1, h2, _, _ => by omega
  | l + 1, j, h1, h2, h3, hm => by
    by_cases hjl : j = l + 1
    · rw [hjl]; exact hm
    · obtain ⟨o, ho, _⟩ := op_at (ops := ops) (j := l) (by omega)
      refine ps_back hr hp l j h1 (by omega) (by omega) ?_
      rcases run_ps hr ho with he | ⟨q, hq, _⟩ | ⟨_, he⟩
      · rw [he] at hm; exact hm
      · rw [hq.ps] at hm
        rcases List.mem_cons.1 hm with rfl | hm
        · have := alloc_ids hr (by omega) (by omega) hp hq rfl
          omega
        · exact hm
      · rw [he] at hm
        exact (List.mem_filter.1 hm).1

theorem ps_from (hr : TextRun P nt ops ah ld st) (h0 : (st 0).ps = []) : ∀ (j : Nat), j ≤ ops.size → ∀ p ∈ (st j).ps, ∃ i, i < j ∧ AllocAt ah ld st i p
  | 0, _, p, hp => by rw [h0] at hp; cases hp
  | j + 1, hj, p, hp => by
    obtain ⟨o, ho, _⟩ := op_at (ops := ops) (j := j) (by omega)
    have old : ∀ q ∈ (st j).ps, ∃ i, i < j + 1 ∧ AllocAt ah ld st i q := fun q hq => by
      obtain ⟨i, h1, h2⟩ := ps_from hr h0 j (by omega) q hq
      exact ⟨i, by omega, h2⟩
    rcases run_ps hr ho with he | ⟨q, hq, _⟩ | ⟨_, he⟩
    · rw [he] at hp; exact old p hp
    · rw [hq.ps] at hp
      rcases List.mem_cons.1 hp with rfl | hp
      · exact ⟨j, by omega, hq⟩
      · exact old p hp
    · rw [he] at hp
      exact old p (List.mem_filter.1 hp).1

noncomputable def allocs (P : Program) : List Oper → Nat → Nat
  | [], _ => 0
  | _ :: _, 0 => 0
  | o :: os, j + 1 => (match okC P o.op with | .alloc _ => 1 | _ => 0) + allocs P os j

theorem allocs_all : ∀ (L : List Oper), allocs P L L.length = allocsIn P L
  | [] => rfl
  | o :: os => by
    simp only [allocs, allocsIn, List.length_cons, allocs_all os]
    cases okC P o.op <;> simp <;> omega

theorem allocs_succ : ∀ (L : List Oper) (j : Nat) (o : Oper), L[j]? = some o → allocs P L (j + 1) = allocs P L j + (match okC P o.op with | .alloc _ => 1 | _ => 0)
  | [], _, _, h => by simp at h
  | x :: L, 0, o, h => by
    simp at h
    subst h
    cases L <;> simp [allocs]
  | x :: L, j + 1, o, h => by
    have := allocs_succ L j o (by simpa using h)
    simp only [allocs] at this ⊢
    omega

theorem run_rn (hr : TextRun P nt ops ah ld st) : ∀ (j : Nat), j ≤ ops.size → (st j).r.num ≤ (st 0).r.num + allocs P ops.toList j
  | 0, _ => by omega
  | j + 1, hj => by
    obtain ⟨o, ho, ho'⟩ := op_at (ops := ops) (j := j) (by omega)
    have ih := run_rn hr j (by omega)
    rw [allocs_succ _ j o ho']
    have h := hr j o ho
    generalize hs : st (j + 1) = s' at h
    cases h with
    | alloc e' B v hw hp2 hl2 ha act =>
      obtain ⟨f, hf⟩ := ha
      simp only [hf, Pos.num_nxt]
      omega
    | _ => simp only; omega

/-- the heaps behind the louds are in the row -/
theorem run_hs (hr : TextRun P nt ops ah ld st) (h0 : (st 0).hs = [(st 0).h]) : ∀ (j : Nat), j ≤ ops.size → (st j).hs.length = before P ops.toList j + 1 ∧ ∀ i, i ≤ j → (st j).hs.reverse[before P ops.toList i]? = some (st i).h
  | 0, _ => by
    have hb : before P ops.toList 0 = 0 := by cases ops.toList <;> rfl
    refine ⟨by rw [h0, hb]; rfl, fun i hi => ?_⟩
    rw [Nat.le_zero.1 hi, hb, h0]
    rfl
  | j + 1, hj => by
    obtain ⟨o, ho, ho'⟩ := op_at (ops := ops) (j := j) (by omega)
    obtain ⟨ih1, ih2⟩ := run_hs hr h0 j (by omega)
    have h1 := before_succ (P := P) _ j o ho'
    cases hl : (okC P o.op).isLoud with
    | false =>
      rw [hl] at h1
      simp only [Nat.add_zero] at h1
      obtain ⟨a, b, c⟩ := run_quiet hr ho hl
      refine ⟨by rw [c, ih1, h1], fun i hi => ?_⟩
      by_cases hij : i = j + 1
      · subst hij
        rw [c, a, h1]
        exact ih2 j (Nat.le_refl _)
      · rw [c]
        exact ih2 i (by omega)
    | true =>
      rw [hl] at h1
      simp only at h1
      have hhs : (st (j + 1)).hs = (st (j + 1)).h :: (st j).hs := by
        have h := hr j o ho
        generalize st (j + 1) = s' at h
        cases h <;> first | rfl | (rw [hl] at *; contradiction)
      refine ⟨by rw [hhs, List.length_cons, ih1, h1], fun i hi => ?_⟩
      rw [hhs, List.reverse_cons, List.getElem?_append]
      by_cases hij : i = j + 1
      · subst hij
        rw [if_neg (by rw [List.length_reverse, ih1, h1]; omega), List.length_reverse, ih1, h1]
        simp
      · have := before_mono (P := P) ops.toList i j (by omega) (by simp; omega)
        rw [if_pos (by rw [List.length_reverse, ih1]; omega)]
        exact ih2 i (by omega)

/-- looks stay in the list -/
theorem run_ls (hr : TextRun P nt ops ah ld st) : ∀ (j i : Nat), i ≤ j → j ≤ ops.size → ∀ l ∈ (st i).ls, l ∈ (st j).ls
  | 0, i, hi, _ => by rw [Nat.le_zero.1 hi]; exact fun _ h => h
  | j + 1, i, hi, hj => by
    by_cases hij : i = j + 1
    · rw [hij]; exact fun _ h => h
    · obtain ⟨o, ho, _⟩ := op_at (ops := ops) (j := j) (by omega)
      intro l hl
      have h1 := run_ls hr j i (by omega) (by omega) l hl
      have h := hr j o ho
      generalize st (j + 1) = s' at h
      cases h <;> first | exact h1 | exact List.mem_cons_of_mem _ h1

end
end Go.Am
/- Regions that draw their order: slots. -/
namespace Go.Am
open Go

section
variable {P : Program} {nt : Nat} {ops : Array Oper} {ah ld : List Nat} {st : Nat → DSt}

theorem run_put (hr : TextRun P nt ops ah ld st) {j : Nat} {o : Oper} (ho : ops[j]? = some o) : ∃ v, PutR nt o.dst v (st j).e (st (j + 1)).e := by
  have h := hr j o ho
  generalize st (j + 1) = s' at h
  cases h <;> exact ⟨_, by assumption⟩

theorem env_keep (hr : TextRun P nt ops ah ld st) {t : Nat} (ht : t < nt) : ∀ (j i : Nat), i ≤ j → j ≤ ops.size → (∀ (x : Nat) (o : Oper), i ≤ x → x < j → ops[x]? = some o → o.dst ≠ some t) → PT.get (posOf t) (st j).e = PT.get (posOf t) (st i).e
  | 0, i, hi, _, _ => by rw [Nat.le_zero.1 hi]
  | j + 1, i, hi, hj, hw => by
    by_cases hij : i = j + 1
    · rw [hij]
    · obtain ⟨o, ho, _⟩ := op_at (ops := ops) (j := j) (by omega)
      obtain ⟨v, _, hp⟩ := run_put hr ho
      rw [hp t ht, if_neg (hw j o (by omega) (by omega) ho)]
      exact env_keep hr ht j i (by omega) (by omega) fun x o h1 h2 => hw x o h1 (by omega)

/-- a slot's writer is one -/
def Single (ops : Array Oper) : Prop := ∀ (i j : Nat) (o o' : Oper) (t : Nat), ops[i]? = some o → ops[j]? = some o' → o.dst = some t → o'.dst = some t → t ≤ 100000 → i = j

theorem Wr.single {t : PT Nat} (hw : Wr ops ops.size t) : Single ops := by
  intro i j o o' d h1 h2 h3 h4 hd
  have a := (hw d i hd).2 ⟨(Array.getElem?_eq_some_iff.1 h1).1, o, h1, h3⟩
  have b := (hw d j hd).2 ⟨(Array.getElem?_eq_some_iff.1 h2).1, o', h2, h4⟩
  rw [a] at b
  injection b

def Written (ops : Array Oper) (S : Nat → Prop) (t : Nat) : Prop := ∃ (i : Nat) (o : Oper), ops[i]? = some o ∧ o.dst = some t ∧ S i

open Classical in
/-- what is known of a slot -/
noncomputable def envS (ops : Array Oper) (st : Nat → DSt) (S : Nat → Prop) (t : Nat) : Option AV := if Written ops S t then PT.get (posOf t) (st ops.size).e else PT.get (posOf t) (st 0).e

def EnvS (φ : Phi) (nt : Nat) (ops : Array Oper) (st : Nat → DSt) (S : Nat → Prop) (a : Act) : Prop := ∀ t v, t < nt → envS ops st S t = some v → ∃ cv, a.tmps[t]? = some cv ∧ VR φ v cv

def Ahead (S : Nat → Prop) (o : Oper) : Prop := ∀ e ∈ o.after.toList, Region.binds .any e = true → S e.on

theorem Closed.more {S : Nat → Prop} (hS : Closed ops S) {j : Nat} {o : Oper} (ho : ops[j]? = some o) (hA : Ahead S o) : Closed ops (fun i => S i ∨ i = j) := by
  intro i o' hi hSi e he hb
  rcases hSi with hSi | rfl
  · exact .inl (hS i o' hi hSi e he hb)
  · rw [ho] at hi
    injection hi with hi
    subst hi
    exact .inl (hA e he hb)

theorem reads_env (hr : TextRun P nt ops (aheads ops.toList) ld st) (hnt : nt ≤ 100000) (h1 : Single ops) {S : Nat → Prop} (hS : Closed ops S) {φ : Phi} {a : Act} (he : EnvS φ nt ops st S a) {j : Nat} {o : Oper} (ho : ops[j]? = some o) (hj : ¬ S j)
    (hA : Ahead S o) (hrd : ∀ d, Reads ops o d → ReadGood ops (aheads ops.toList) j d) : EnvP φ nt ops o (st j).e a := by
  have hjs : j < ops.size := (Array.getElem?_eq_some_iff.1 ho).1
  intro d hd v hdn hv
  have hg := hrd d hd
  refine he d v hdn ?_
  unfold envS
  by_cases hw : ∃ (i : Nat) (o' : Oper), ops[i]? = some o' ∧ o'.dst = some d
  · obtain ⟨i, o', hi, hd'⟩ := hw
    have his : i < ops.size := (Array.getElem?_eq_some_iff.1 hi).1
    rcases hg i o' hi hd' with ⟨hlt, hb⟩ | ⟨hlt, hb⟩
    · have hSi : S i := (aheads_closed (hS.more ho hA) hb (.inr rfl)).resolve_right (by omega)
      rw [if_pos ⟨i, o', hi, hd', hSi⟩, env_keep hr hdn ops.size j (by omega) (Nat.le_refl _) fun x ox hx _ hox hdx => by
        have := h1 i x o' ox d hi hox hd' hdx (by omega)
        omega]
      exact hv
    · have hSi : ¬ S i := fun h => hj (aheads_closed hS hb h)
      rw [if_neg (by
        rintro ⟨x, ox, hox, hdx, hSx⟩
        have := h1 i x o' ox d hi hox hd' hdx (by omega)
        subst this
        exact hSi hSx)]
      rw [env_keep hr hdn j 0 (Nat.zero_le _) (by omega) fun x ox _ hx hox hdx => by
        have := h1 i x o' ox d hi hox hd' hdx (by omega)
        omega] at hv
      exact hv
  · rw [if_neg (by rintro ⟨x, ox, hox, hdx, _⟩; exact hw ⟨x, ox, hox, hdx⟩)]
    rw [env_keep hr hdn j 0 (Nat.zero_le _) (by omega) fun x ox _ _ hox hdx => hw ⟨x, ox, hox, hdx⟩] at hv
    exact hv

theorem env_put (hr : TextRun P nt ops ah ld st) (hnt : nt ≤ 100000) (h1 : Single ops) {S : Nat → Prop} {φ φ' : Phi} {a : Act} (hsz : a.tmps.size = nt) (he : EnvS φ nt ops st S a) (hle : Le φ φ') {j : Nat} {o : Oper} (ho : ops[j]? = some o)
    {v : AV} {cv : Value} (hp : PutR nt o.dst v (st j).e (st (j + 1)).e) (hv : VR φ' v cv) : (a.put o.dst cv).tmps.size = nt ∧ EnvS φ' nt ops st (fun i => S i ∨ i = j) (a.put o.dst cv) := by
  have hjs : j < ops.size := (Array.getElem?_eq_some_iff.1 ho).1
  refine ⟨by cases hd : o.dst <;> simp [Act.put, hsz], fun t x ht hx => ?_⟩
  by_cases hd : o.dst = some t
  · have hx' : x = v := by
      unfold envS at hx
      rw [if_pos ⟨j, o, ho, hd, .inr rfl⟩, env_keep hr ht ops.size (j + 1) (by omega) (Nat.le_refl _) (fun y oy hy _ hoy hdy => by
        have := h1 j y o oy t ho hoy hd hdy (by omega)
        omega), hp.2 t ht, if_pos hd] at hx
      injection hx with hx
      exact hx.symm
    subst hx'
    refine ⟨cv, ?_, hv⟩
    rw [hd]
    simp only [Act.put]
    rw [Array.getElem?_setIfInBounds, if_pos rfl, if_pos (by omega)]
  · have hx' : envS ops st S t = some x := by
      unfold envS at hx ⊢
      have : Written ops (fun i => S i ∨ i = j) t ↔ Written ops S t := by
        constructor
        · rintro ⟨i, o', hi, hdi, hSi | rfl⟩
          · exact ⟨i, o', hi, hdi, hSi⟩
          · rw [ho] at hi
            injection hi with hi
            subst hi
            exact absurd hdi hd
        · rintro ⟨i, o', hi, hdi, hSi⟩
          exact ⟨i, o', hi, hdi, .inl hSi⟩
      by_cases hw : Written ops S t
      · rw [if_pos (this.2 hw)] at hx; rw [if_pos hw]; exact hx
      · rw [if_neg (fun h => hw (this.1 h))] at hx; rw [if_neg hw]; exact hx
    obtain ⟨cx, e1, e2⟩ := he t x ht hx'
    refine ⟨cx, ?_, VR.mono hle _ _ e2⟩
    cases hd2 : o.dst with
    | none => exact e1
    | some d =>
      simp only [Act.put]
      rw [Array.getElem?_setIfInBounds, if_neg (fun h => hd (by rw [hd2, h]))]
      exact e1

end
end Go.Am
