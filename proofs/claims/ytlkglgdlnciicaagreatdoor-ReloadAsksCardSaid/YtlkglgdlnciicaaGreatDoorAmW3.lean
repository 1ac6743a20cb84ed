/- What a walk asks at each step (3): code, loops, functions. -/
import Derived.Test.YtlkglgdlnciicaaGreatDoorAmW1
set_option linter.all false
namespace Go.Am
open Go

section
variable {P : Program} {prim : FuncId → Option Prim}

def LeadC (nt : Nat) (X : Nat → (Ex → Env → Hp → Pos → Bool) → Bool) (K : Ex → Ev → Hp → Pos → Prop) : Prop :=
  ∃ x l e h n, Sub nt l e ∧ (∃ d0, ∀ d, d0 ≤ d → ∀ k, X d k = k x e h n) ∧ K x l h n

/-- rounds of a loop, so many at most -/
def wpRounds (B : (Ex → Ev → Hp → Pos → Prop) → Ev → Hp → Pos → Prop) (Q : Ex → Ev → Hp → Pos → Prop) : Nat → Ev → Hp → Pos → Prop
  | 0, _, _, _ => False
  | f + 1, l, h, n => B (fun x l h n => match x with
    | .normal => wpRounds B Q f l h n
    | .exit j => Q (.exit j) l h n
    | .ret => Q .ret l h n) l h n

def seqQ (K : Ev → Hp → Pos → Prop) (Q : Ex → Ev → Hp → Pos → Prop) (x : Ex) (l : Ev) (h : Hp) (n : Pos) : Prop := match x with
  | .normal => K l h n
  | .exit j => Q (.exit j) l h n
  | .ret => Q .ret l h n

def blockQ (id : Nat) (Q : Ex → Ev → Hp → Pos → Prop) (x : Ex) (l : Ev) (h : Hp) (n : Pos) : Prop := match x with
  | .normal => Q .normal l h n
  | .exit j => if j = id then Q .normal l h n else Q (.exit j) l h n
  | .ret => Q .ret l h n

/-- a region that draws its order: any way to show what it comes to -/
def wpDraw (P : Program) (prim : FuncId → Option Prim) (nt : Nat) (ops : Array Oper) (Q : Ev → Hp → Pos → Prop) (l : Ev) (h : Hp) (n : Pos) : Prop :=
  ∀ e, Sub nt l e → LeadS nt (fun d k => (regionC P nt ops).run (callD P prim d) e h n k) Q

def wpLoop (B : (Ex → Ev → Hp → Pos → Prop) → Ev → Hp → Pos → Prop) (Q : Ex → Ev → Hp → Pos → Prop) (l : Ev) (h : Hp) (n : Pos) : Prop := ∃ f, f ≤ loopMax ∧ wpRounds B Q f l h n

def condW (v : Option AV) (a b : Prop) : Prop := match v with
  | some (.b t) => if t = true then a else b
  | _ => False

noncomputable def wpC (P : Program) (prim : FuncId → Option Prim) (nt : Nat) : Code → (Ex → Ev → Hp → Pos → Prop) → Ev → Hp → Pos → Prop
  | .skip, Q, l, h, n => Q .normal l h n
  | .region _ ops false, Q, l, h, n => wpS P prim nt ops (Q .normal) ops.toList l h n
  | .region _ ops true, Q, l, h, n => wpDraw P prim nt ops (Q .normal) l h n
  | .seq a b, Q, l, h, n => wpC P prim nt a (seqQ (wpC P prim nt b Q) Q) l h n
  | .cond c a b, Q, l, h, n => condW (evO c l) (wpC P prim nt a Q l h n) (wpC P prim nt b Q l h n)
  | .block id b, Q, l, h, n => wpC P prim nt b (blockQ id Q) l h n
  | .loop b, Q, l, h, n => wpLoop (wpC P prim nt b) Q l h n
  | .exit id, Q, l, h, n => Q (.exit id) l h n
  | .ret, Q, l, h, n => Q .ret l h n
  | _, _, _, _, _ => False

theorem wpDraw_mono {nt : Nat} {ops : Array Oper} {Q Q' : Ev → Hp → Pos → Prop} {l : Ev} {h : Hp} {n : Pos} (hw : wpDraw P prim nt ops Q l h n) (hq : ∀ l h n, Q l h n → Q' l h n) : wpDraw P prim nt ops Q' l h n := fun e hs => by
  obtain ⟨l', e', h', n', h1, h2, h3⟩ := hw e hs
  exact ⟨l', e', h', n', h1, h2, hq _ _ _ h3⟩

theorem wpRounds_mono {B : (Ex → Ev → Hp → Pos → Prop) → Ev → Hp → Pos → Prop} (hB : ∀ (Q Q' : Ex → Ev → Hp → Pos → Prop) (l : Ev) (h : Hp) (n : Pos), B Q l h n → (∀ x l h n, Q x l h n → Q' x l h n) → B Q' l h n) {Q Q' : Ex → Ev → Hp → Pos → Prop} (hq : ∀ x l h n, Q x l h n → Q' x l h n) :
    ∀ {f : Nat} {l : Ev} {h : Hp} {n : Pos}, wpRounds B Q f l h n → wpRounds B Q' f l h n
  | 0, _, _, _, hw => hw.elim
  | f + 1, l, h, n, hw => hB _ _ _ _ _ hw fun x l h n hx => by
    cases x with
    | normal => exact wpRounds_mono hB hq hx
    | exit j => exact hq _ _ _ _ hx
    | ret => exact hq _ _ _ _ hx

theorem wpC_mono {nt : Nat} : ∀ (c : Code) {Q Q' : Ex → Ev → Hp → Pos → Prop} {l : Ev} {h : Hp} {n : Pos}, wpC P prim nt c Q l h n → (∀ x l h n, Q x l h n → Q' x l h n) → wpC P prim nt c Q' l h n
  | .skip, _, _, _, _, _, hw, hq => hq _ _ _ _ hw
  | .region _ ops true, _, _, _, _, _, hw, hq => wpDraw_mono hw (hq .normal)
  | .region _ ops false, _, _, _, _, _, hw, hq => wpS_mono (hq .normal) hw
  | .seq a b, _, _, _, _, _, hw, hq => wpC_mono a hw fun x l h n hx => by
    cases x with
    | normal => exact wpC_mono b hx hq
    | exit j => exact hq _ _ _ _ hx
    | ret => exact hq _ _ _ _ hx
  | .cond c a b, Q, Q', l, h, n, hw, hq => by
    have hw' : condW (evO c l) (wpC P prim nt a Q l h n) (wpC P prim nt b Q l h n) := hw
    show condW (evO c l) (wpC P prim nt a Q' l h n) (wpC P prim nt b Q' l h n)
    unfold condW at *
    split at hw'
    · split at hw'
      · rename_i ht; rw [if_pos ht]; exact wpC_mono a hw' hq
      · rename_i ht; rw [if_neg ht]; exact wpC_mono b hw' hq
    · exact hw'
  | .block id b, _, _, _, _, _, hw, hq => wpC_mono b hw fun x l h n hx => by
    cases x with
    | normal => exact hq _ _ _ _ hx
    | exit j =>
      have hx' : if j = id then _ else _ := hx
      show if j = id then _ else _
      split at hx'
      · rename_i hj; rw [if_pos hj]; exact hq _ _ _ _ hx'
      · rename_i hj; rw [if_neg hj]; exact hq _ _ _ _ hx'
    | ret => exact hq _ _ _ _ hx
  | .loop b, _, _, _, _, _, ⟨f, hf, hw⟩, hq => ⟨f, hf, wpRounds_mono (B := wpC P prim nt b) (fun _ _ _ _ _ hb hq => wpC_mono b hb hq) hq hw⟩
  | .exit id, _, _, _, _, _, hw, hq => hq _ _ _ _ hw
  | .ret, _, _, _, _, _, hw, hq => hq _ _ _ _ hw
  | .rangeFunc _ _ _ _, _, _, _, _, _, hw, _ => hw.elim
  | .scope _, _, _, _, _, _, hw, _ => hw.elim
  | .refuse _, _, _, _, _, _, hw, _ => hw.elim
  | .label _, _, _, _, _, _, hw, _ => hw.elim
  | .goto _, _, _, _, _, _, hw, _ => hw.elim

theorem exK_normal {n : Bool} {e : Nat → Bool} {r : Bool} : exK .normal n e r = n := rfl
theorem exK_exit {j : Nat} {n : Bool} {e : Nat → Bool} {r : Bool} : exK (.exit j) n e r = e j := rfl
theorem exK_ret {n : Bool} {e : Nat → Bool} {r : Bool} : exK .ret n e r = r := rfl

theorem rounds_lead {nt : Nat} {b : Code} (hb : ∀ {Q : Ex → Ev → Hp → Pos → Prop} {l : Ev} {h : Hp} {n : Pos} {e : Env}, Sub nt l e → wpC P prim nt b Q l h n → LeadC nt (fun d k => (codeC P nt b).run (callD P prim d) e h n k) Q) {Q : Ex → Ev → Hp → Pos → Prop} :
    ∀ (f fuel : Nat), f ≤ fuel → ∀ {l : Ev} {h : Hp} {n : Pos} {e : Env}, Sub nt l e → wpRounds (wpC P prim nt b) Q f l h n → LeadC nt (fun d k => loopK fuel (codeC P nt b) (callD P prim d) e h n k) Q
  | 0, _, _, _, _, _, _, _, hw => hw.elim
  | f + 1, 0, hf, _, _, _, _, _, _ => by omega
  | f + 1, fuel + 1, hf, l, h, n, e, hs, hw => by
    obtain ⟨x, l1, e1, h1, n1, s1, ⟨d1, q1⟩, k1⟩ := hb hs hw
    cases x with
    | normal =>
      obtain ⟨x, l2, e2, h2, n2, s2, ⟨d2, q2⟩, k2⟩ := rounds_lead hb f fuel (by omega) s1 k1
      refine ⟨x, l2, e2, h2, n2, s2, ⟨max d1 d2, fun d hd k => ?_⟩, k2⟩
      have a := q1 d (by omega) (fun x e' h' n' => exK x (loopK fuel (codeC P nt b) (callD P prim d) e' h' n' k) (fun j => k (.exit j) e' h' n') (k .ret e' h' n'))
      exact a.trans (q2 d (by omega) k)
    | exit j =>
      exact ⟨.exit j, l1, e1, h1, n1, s1, ⟨d1, fun d hd k => q1 d hd (fun x e' h' n' => exK x (loopK fuel (codeC P nt b) (callD P prim d) e' h' n' k) (fun j => k (.exit j) e' h' n') (k .ret e' h' n'))⟩, k1⟩
    | ret =>
      exact ⟨.ret, l1, e1, h1, n1, s1, ⟨d1, fun d hd k => q1 d hd (fun x e' h' n' => exK x (loopK fuel (codeC P nt b) (callD P prim d) e' h' n' k) (fun j => k (.exit j) e' h' n') (k .ret e' h' n'))⟩, k1⟩

theorem wpC_lead {nt : Nat} (hnt : nt ≤ 100000) : ∀ (c : Code) {Q : Ex → Ev → Hp → Pos → Prop} {l : Ev} {h : Hp} {n : Pos} {e : Env}, Sub nt l e → wpC P prim nt c Q l h n →
    LeadC nt (fun d k => (codeC P nt c).run (callD P prim d) e h n k) Q
  | .skip, Q, l, h, n, e, hs, hw => ⟨.normal, l, e, h, n, hs, ⟨0, fun _ _ _ => rfl⟩, hw⟩
  | .region id ops true, Q, l, h, n, e, hs, hw => by
    obtain ⟨l', e', h', n', h1, ⟨d0, h2⟩, h3⟩ := hw e hs
    exact ⟨.normal, l', e', h', n', h1, ⟨d0, fun d hd k => h2 d hd (fun e' h' n' => k .normal e' h' n')⟩, h3⟩
  | .region id ops false, Q, l, h, n, e, hs, hw => by
    obtain ⟨l', e', h', n', h1, ⟨d0, h2⟩, h3⟩ := wpS_lead (P := P) (prim := prim) hnt hs (show wpS P prim nt ops (Q .normal) ops.toList l h n from hw)
    exact ⟨.normal, l', e', h', n', h1, ⟨d0, fun d hd k => h2 d hd (fun e' h' n' => k .normal e' h' n')⟩, h3⟩
  | .seq a b, Q, l, h, n, e, hs, hw => by
    obtain ⟨x, l1, e1, h1, n1, s1, ⟨d1, q1⟩, k1⟩ := wpC_lead hnt a hs (show wpC P prim nt a (seqQ (wpC P prim nt b Q) Q) l h n from hw)
    cases x with
    | normal =>
      obtain ⟨x, l2, e2, h2, n2, s2, ⟨d2, q2⟩, k2⟩ := wpC_lead hnt b s1 (show wpC P prim nt b Q l1 h1 n1 from k1)
      refine ⟨x, l2, e2, h2, n2, s2, ⟨max d1 d2, fun d hd k => ?_⟩, k2⟩
      have a := q1 d (by omega) (fun x e' h' n' => exK x ((codeC P nt b).run (callD P prim d) e' h' n' k) (fun j => k (.exit j) e' h' n') (k .ret e' h' n'))
      exact a.trans (q2 d (by omega) k)
    | exit j => exact ⟨.exit j, l1, e1, h1, n1, s1, ⟨d1, fun d hd k => q1 d hd (fun x e' h' n' => exK x ((codeC P nt b).run (callD P prim d) e' h' n' k) (fun j => k (.exit j) e' h' n') (k .ret e' h' n'))⟩, k1⟩
    | ret => exact ⟨.ret, l1, e1, h1, n1, s1, ⟨d1, fun d hd k => q1 d hd (fun x e' h' n' => exK x ((codeC P nt b).run (callD P prim d) e' h' n' k) (fun j => k (.exit j) e' h' n') (k .ret e' h' n'))⟩, k1⟩
  | .cond c a b, Q, l, h, n, e, hs, hw => by
    have hw' : condW (evO c l) (wpC P prim nt a Q l h n) (wpC P prim nt b Q l h n) := hw
    unfold condW at hw'
    split at hw'
    · rename_i t ht
      have ho := fun k => opndC_eq (nt := nt) (k := k) hs ht
      split at hw'
      · rename_i htt
        subst htt
        obtain ⟨x, l1, e1, h1, n1, s1, ⟨d1, q1⟩, k1⟩ := wpC_lead hnt a hs hw'
        refine ⟨x, l1, e1, h1, n1, s1, ⟨d1, fun d hd k => ?_⟩, k1⟩
        exact (ho _).trans (q1 d hd k)
      · rename_i htt
        have htt : t = false := by simpa using htt
        subst htt
        obtain ⟨x, l1, e1, h1, n1, s1, ⟨d1, q1⟩, k1⟩ := wpC_lead hnt b hs hw'
        refine ⟨x, l1, e1, h1, n1, s1, ⟨d1, fun d hd k => ?_⟩, k1⟩
        exact (ho _).trans (q1 d hd k)
    · cases hw'
  | .block id b, Q, l, h, n, e, hs, hw => by
    obtain ⟨x, l1, e1, h1, n1, s1, ⟨d1, q1⟩, k1⟩ := wpC_lead hnt b hs (show wpC P prim nt b (blockQ id Q) l h n from hw)
    have run := fun d (hd : d1 ≤ d) (k : Ex → Env → Hp → Pos → Bool) => q1 d hd (fun x e' h' n' => exK x (k .normal e' h' n') (fun j => bK (Nat.beq j id) (k .normal e' h' n') (k (.exit j) e' h' n')) (k .ret e' h' n'))
    cases x with
    | normal => exact ⟨.normal, l1, e1, h1, n1, s1, ⟨d1, fun d hd k => run d hd k⟩, k1⟩
    | exit j =>
      have k1' : if j = id then Q .normal l1 h1 n1 else Q (.exit j) l1 h1 n1 := k1
      split at k1'
      · rename_i hj
        refine ⟨.normal, l1, e1, h1, n1, s1, ⟨d1, fun d hd k => (run d hd k).trans ?_⟩, k1'⟩
        show bK (Nat.beq j id) _ _ = _
        rw [nbeq_true hj]
        rfl
      · rename_i hj
        refine ⟨.exit j, l1, e1, h1, n1, s1, ⟨d1, fun d hd k => (run d hd k).trans ?_⟩, k1'⟩
        show bK (Nat.beq j id) _ _ = _
        have : Nat.beq j id = false := by
          cases hb : Nat.beq j id with
          | true => exact absurd (nbeq_of hb) hj
          | false => rfl
        rw [this]
        rfl
    | ret => exact ⟨.ret, l1, e1, h1, n1, s1, ⟨d1, fun d hd k => run d hd k⟩, k1⟩
  | .loop b, Q, l, h, n, e, hs, ⟨f, hf, hw⟩ => rounds_lead (fun hs hw => wpC_lead hnt b hs hw) f loopMax hf hs hw
  | .exit id, Q, l, h, n, e, hs, hw => ⟨.exit id, l, e, h, n, hs, ⟨0, fun _ _ _ => rfl⟩, hw⟩
  | .ret, Q, l, h, n, e, hs, hw => ⟨.ret, l, e, h, n, hs, ⟨0, fun _ _ _ => rfl⟩, hw⟩
  | .rangeFunc _ _ _ _, _, _, _, _, _, _, hw => hw.elim
  | .scope _, _, _, _, _, _, _, hw => hw.elim
  | .refuse _, _, _, _, _, _, _, hw => hw.elim
  | .label _, _, _, _, _, _, _, hw => hw.elim
  | .goto _, _, _, _, _, _, _, hw => hw.elim

/-- A LOOP: by what holds at its head, and a measure. -/
theorem wpLoop_inv {nt : Nat} {b : Code} {Q : Ex → Ev → Hp → Pos → Prop} (I : Nat → Ev → Hp → Pos → Prop) {l : Ev} {h : Hp} {n : Pos} (m : Nat) (hm : m < 9223372036854775808) (h0 : I m l h n)
    (hr : ∀ m l h n, I m l h n → wpC P prim nt b (fun x l' h' n' => match x with
      | .normal => ∃ m', m' < m ∧ I m' l' h' n'
      | .exit j => Q (.exit j) l' h' n'
      | .ret => Q .ret l' h' n') l h n) : wpLoop (wpC P prim nt b) Q l h n := by
  have key : ∀ (m f : Nat), m < f → ∀ l h n, I m l h n → wpRounds (wpC P prim nt b) Q f l h n := by
    intro m
    induction m using Nat.strongRecOn with
    | ind m ih =>
      intro f hf l h n hI
      obtain ⟨f, rfl⟩ : ∃ f', f = f' + 1 := ⟨f - 1, by omega⟩
      refine wpC_mono b (hr m l h n hI) fun x l' h' n' hx => ?_
      cases x with
      | normal =>
        obtain ⟨m', hlt, hI'⟩ := hx
        exact ih m' hlt f (by omega) l' h' n' hI'
      | exit j => exact hx
      | ret => exact hx
  exact ⟨loopMax, Nat.le_refl _, key m loopMax hm l h n h0⟩

/-! functions -/
def argsE : List AV → Nat → Ev
  | [], _ => []
  | a :: r, j => (j, a) :: argsE r (j + 1)

theorem lk_args : ∀ (args : List AV) (j t : Nat) (v : AV), lk t (argsE args j) = some v → j ≤ t ∧ args[t - j]? = some v
  | [], _, _, _, h => by cases h
  | a :: r, j, t, v, h => by
    simp only [argsE, lk] at h
    split at h
    · rename_i hj
      subst hj
      injection h with h
      subst h
      simp
    · rename_i hj
      obtain ⟨h1, h2⟩ := lk_args r (j + 1) t v h
      refine ⟨by omega, ?_⟩
      rw [show t - j = (t - (j + 1)) + 1 from by omega]
      simpa using h2

theorem enter_sub {nt : Nat} (hnt : nt ≤ 100000) {args : List AV} (hl : args.length ≤ nt) : ∃ e, (∀ k : Env → Bool, envK args 0 .L k = k e) ∧ Sub nt (argsE args 0) e := by
  have key : ∀ (args : List AV) (j : Nat) (e : Env), j + args.length ≤ 100000 → ∃ e', (∀ k : Env → Bool, envK args j e k = k e') ∧
      ∀ t, t < 100000 → PT.get (posOf t) e' = if j ≤ t ∧ t < j + args.length then args[t - j]? else PT.get (posOf t) e := by
    intro args
    induction args with
    | nil => intro j e _; exact ⟨e, fun k => rfl, fun t _ => by rw [if_neg (fun hh => by simp at hh; omega)]⟩
    | cons a r ih =>
      intro j e hj
      simp only [List.length_cons] at hj
      obtain ⟨e', h1, h2⟩ := ih (j + 1) (PT.set (some a) (posOf j) e) (by omega)
      refine ⟨e', fun k => ?_, fun t ht => ?_⟩
      · show PT.setK (posOf j) (some a) e (fun e' => envK r (Nat.succ j) e' k) = _
        rw [setK_eq]
        exact h1 k
      · rw [h2 t ht]
        simp only [List.length_cons]
        by_cases h0 : t = j
        · subst h0
          rw [if_neg (by omega), get_set_same, if_pos (by omega)]
          simp
        · rw [get_set_ne _ _ _ _ (fun hp => h0 (posOf_inj (by omega) (by omega) hp).symm)]
          by_cases h4 : j + 1 ≤ t ∧ t < j + 1 + r.length
          · rw [if_pos h4, if_pos (by omega), show t - j = (t - (j + 1)) + 1 from by omega]
            simp
          · rw [if_neg h4, if_neg (by omega)]
  obtain ⟨e, h1, h2⟩ := key args 0 .L (by omega)
  refine ⟨e, h1, fun t v hv => ?_⟩
  obtain ⟨_, h4⟩ := lk_args args 0 t v hv
  have hlt := (List.getElem?_eq_some_iff.1 h4).1
  simp only [Nat.sub_zero] at h4 hlt
  refine ⟨by omega, ?_⟩
  rw [h2 t (by omega), if_pos (by omega)]
  simpa using h4

def resV (P : Program) (rs : List ResultVar) (l : Ev) (h : Hp) : Option (List AV) := match rs with
  | [] => some []
  | .tmp t :: r => match lk t l with
    | some v => match resV P r l h with
      | some vs => some (v :: vs)
      | none => none
    | none => none
  | .cell c t :: r => match lk c l, isAggT P t, szT P t with
    | some (.ptr id off), some a, some n => match loadV a n h id off with
      | some v => match resV P r l h with
        | some vs => some (v :: vs)
        | none => none
      | none => none
    | _, _, _ => none

theorem resC_eq {nt : Nat} : ∀ {rs : List ResultVar} {l : Ev} {e : Env} {h : Hp} {vs : List AV} {k : List AV → Bool}, Sub nt l e → resV P rs l h = some vs → (resC P nt rs).run e h k = k vs
  | [], l, e, h, vs, k, hs, hr => by injection hr with hr; subst hr; rfl
  | .tmp t :: r, l, e, h, vs, k, hs, hr => by
    simp only [resV] at hr
    cases hl : lk t l with
    | none => rw [hl] at hr; cases hr
    | some v =>
      rw [hl] at hr
      cases hq : resV P r l h with
      | none => simp only [hq] at hr; cases hr
      | some ws =>
        simp only [hq] at hr
        injection hr with hr
        subst hr
        obtain ⟨h1, h2⟩ := hs t v hl
        unfold resC slotOf
        rw [nble_true (Nat.succ_le_of_lt h1)]
        show PT.getK (posOf t) e (fun v => (resC P nt r).run e h fun vs => k (v :: vs)) = _
        rw [getK_eq h2, resC_eq hs hq]
  | .cell c t :: r, l, e, h, vs, k, hs, hr => by
    simp only [resV] at hr
    cases hl : lk c l with
    | none => rw [hl] at hr; cases hr
    | some x =>
      rw [hl] at hr
      cases x <;> (try simp only at hr) <;> try (cases hr; done)
      rename_i id off
      cases ha : isAggT P t with
      | none => rw [ha] at hr; cases hr
      | some a =>
        cases hn : szT P t with
        | none => rw [ha, hn] at hr; cases hr
        | some m =>
          rw [ha, hn] at hr
          simp only at hr
          cases hv : loadV a m h id off with
          | none => rw [hv] at hr; cases hr
          | some v =>
            rw [hv] at hr
            cases hq : resV P r l h with
            | none => simp only [hq] at hr; cases hr
            | some ws =>
              simp only [hq] at hr
              injection hr with hr
              subst hr
              obtain ⟨h1, h2⟩ := hs c _ hl
              unfold resC slotOf
              rw [nble_true (Nat.succ_le_of_lt h1), ha, hn]
              show PT.getK (posOf c) e (fun x => asP x fun id off => loadK a m h id off fun v => (resC P nt r).run e h fun vs => k (v :: vs)) = _
              rw [getK_eq h2]
              show loadK a m h id off (fun v => (resC P nt r).run e h fun vs => k (v :: vs)) = _
              rw [loadK_eq hv, resC_eq hs hq]

def oneV (vs : List AV) : AV := match vs with
  | [x] => x
  | vs => .tup vs
theorem oneOr_eq {vs : List AV} {k : AV → Bool} : oneOr vs k = k (oneV vs) := by
  match vs with
  | [] => rfl
  | [x] => rfl
  | x :: y :: r => rfl

/-- what a function's body must come to -/
def bodyQ (P : Program) (rs : List ResultVar) (K : AV → Hp → Pos → Prop) (x : Ex) (l : Ev) (h : Hp) (n : Pos) : Prop := match x with
  | .exit _ => False
  | _ => match resV P rs l h with
    | some vs => K (oneV vs) h n
    | none => False

/-- A FUNCTION's CONTRACT, by its body -/
theorem ac_enter {f : FuncId} {fn : Func} {c : Code} {nt : Nat} {rs : List ResultVar} {args : List AV} {h : Hp} {n : Pos} {K : AV → Hp → Pos → Prop} (hp : prim f = none) (hf : P.funcs[f]? = some fn) (hb : fn.body = some c) (hnt : fn.ntmps = nt) (hrs : fn.results.toList = rs) (hle : nt ≤ 100000) (hl : args.length ≤ nt)
    (hw : wpC P prim nt c (bodyQ P rs K) (argsE args 0) h n) : AC P prim f args h n K := by
  obtain ⟨e, he, hs⟩ := enter_sub hle hl
  obtain ⟨x, l1, e1, h1, n1, s1, ⟨d1, q1⟩, k1⟩ := wpC_lead hle c hs hw
  have fin : ∃ vs, resV P rs l1 h1 = some vs ∧ K (oneV vs) h1 n1 ∧ (∀ j, x ≠ .exit j) := by
    unfold bodyQ at k1
    split at k1
    · exact k1.elim
    · rename_i hx
      split at k1
      · rename_i vs hv
        exact ⟨vs, hv, k1, fun j hj => hx j hj⟩
      · exact k1.elim
  obtain ⟨vs, r1, r2, r3⟩ := fin
  refine ⟨oneV vs, h1, n1, ⟨d1 + 1, fun d hd k => ?_⟩, r2⟩
  obtain ⟨d, rfl⟩ : ∃ d', d = d' + 1 := ⟨d - 1, by omega⟩
  show (funC P prim f).run (callD P prim d) args h n k = _
  unfold funC
  rw [hp]
  simp only [hf, hb]
  rw [hnt, wK_true (nble_true hle), wK_true (nble_true (by rw [lenN_eq]; exact hl)), he]
  have := q1 d (by omega) (fun x e' h' n' =>
          exK x ((resC P nt fn.results.toList).run e' h' fun vs => oneOr vs fun v => k v h' n') (fun _ => false) ((resC P nt fn.results.toList).run e' h' fun vs => oneOr vs fun v => k v h' n'))
  refine this.trans ?_
  have hres : (resC P nt fn.results.toList).run e1 h1 (fun vs => oneOr vs fun v => k v h1 n1) = k (oneV vs) h1 n1 := by
    rw [hrs, resC_eq s1 r1, oneOr_eq]
  cases x with
  | normal => exact hres
  | exit j => exact absurd rfl (r3 j)
  | ret => exact hres

end
end Go.Am
/- What a walk asks at each step (4): regions that draw their order, whose reads have one heap each. -/
namespace Go.Am
open Go

section
variable {P : Program} {prim : FuncId → Option Prim}

noncomputable def fixedReads (P : Program) (ah ld : List Nat) : List Oper → Nat → Nat → Bool
  | [], _, _ => true
  | o :: r, j, k => (match okC P o.op with
    | .read _ => Nat.beq (countIn (ah.getD j 0) ld) (notBehind ah j ld) && Nat.beq (countIn (ah.getD j 0) ld) k
    | _ => true) && fixedReads P ah ld r (j + 1) (match (okC P o.op).isLoud with
    | true => k + 1
    | false => k)

noncomputable def hisOf (ah ld : List Nat) : List Oper → Nat → List Nat
  | [], _ => []
  | _ :: r, j => notBehind ah j ld :: hisOf ah ld r (j + 1)

/-- what is known of a region by its text; and for each operation, ahead of which loud one it stands -/
noncomputable def drawStat (P : Program) (ops : Array Oper) : Option (List Nat × Nat) :=
  match edgesOk ops.toList 0 && loudsChain (aheads ops.toList) (louds P ops.toList 0), writersK (fun t => allReadsOk ops (aheads ops.toList) t ops.toList 0) ops.toList 0 .L, fixedReads P (aheads ops.toList) (louds P ops.toList 0) ops.toList 0 0 with
  | true, true, true => some (hisOf (aheads ops.toList) (louds P ops.toList 0) ops.toList 0, allocsIn P ops.toList)
  | _, _, _ => none

abbrev DK := Ev → Hp → Pos → Pos → Nat → List Pend → Prop

noncomputable def wpDO (P : Program) (prim : FuncId → Option Prim) (nt : Nat) (o : Oper) (hi : Nat) (K : DK) (l : Ev) (h : Hp) (n r : Pos) (k : Nat) (ps : List Pend) : Prop :=
  match evOs o.op.operands.toList l with
  | none => False
  | some vs => match okC P o.op with
    | .pure _ => match pureV P o.op vs with
      | some v => putE nt o.dst v l fun l' => K l' h n r k ps
      | none => False
    | .read _ => match readV P o.op vs h with
      | some v => putE nt o.dst v l fun l' => K l' h n r k ps
      | none => False
    | .alloc _ => match allocV P o.op vs with
      | some (B, mk) => putE nt o.dst (mk r) l fun l' => K l' h n r.nxt k (⟨r, B, hi⟩ :: ps)
      | none => False
    | .loud _ => loudW P prim o.op vs (flushH k ps h) n fun v h' n' => putE nt o.dst v l fun l' => K l' h' n' r (k + 1) (flushPs k ps)

noncomputable def wpDStep (P : Program) (prim : FuncId → Option Prim) (nt : Nat) (ops : Array Oper) (o : Oper) (hi : Nat) (K : DK) (l : Ev) (h : Hp) (n r : Pos) (k : Nat) (ps : List Pend) : Prop := match o.guard with
  | none => wpDO P prim nt o hi K l h n r k ps
  | some (j, want) => match (ops[j]?).bind (·.dst) with
    | none => False
    | some t => match lk t l with
      | none => False
      | some v => if boolOf v = some want then wpDO P prim nt o hi K l h n r k ps else putE nt o.dst undefA l fun l' => K l' h n r (match (okC P o.op).isLoud with
        | true => k + 1
        | false => k) ps

noncomputable def wpDs (P : Program) (prim : FuncId → Option Prim) (nt : Nat) (ops : Array Oper) (K : DK) : List Oper → List Nat → DK
  | [], _ => K
  | o :: os, hi :: his => wpDStep P prim nt ops o hi (wpDs P prim nt ops K os his)
  | _ :: _, [] => fun _ _ _ _ _ _ => False

def LeadD (nt : Nat) (X : Nat → (Env → Hp → Pos → Pos → Nat → List Pend → List Look → List Hp → Bool) → Bool) (ls : List Look) (kk : Nat) (K : DK) : Prop :=
  ∃ l e h n r ps hs, Sub nt l e ∧ (∃ d0, ∀ d, d0 ≤ d → ∀ c, X d c = c e h n r kk ps ls hs) ∧ K l h n r kk ps

theorem flushK_eq {k : Nat} : ∀ {ps : List Pend} {h : Hp} {c : List Pend → Hp → Bool}, flushK k ps h c = c (flushPs k ps) (flushH k ps h)
  | [], h, c => rfl
  | p :: ps, h, c => by
    show flushK k ps h (fun r h' => bK (Nat.ble p.hi k) (PT.setK p.id (some p.blk) h' fun h2 => c r h2) (c (p :: r) h')) = _
    rw [flushK_eq (ps := ps)]
    cases hb : Nat.ble p.hi k with
    | true =>
      rw [bK_t, setK_eq]
      simp [flushPs, flushH, hb, nble_of hb]
    | false =>
      rw [bK_f]
      have hle : ¬ p.hi ≤ k := fun hh => by rw [Nat.ble_eq_true_of_le hh] at hb; cases hb
      simp [flushPs, flushH, hb, hle]

theorem wpDO_lead {nt : Nat} (hnt : nt ≤ 100000) {o : Oper} {lo hi : Nat} {K : DK} {l : Ev} {h : Hp} {n r : Pos} {k : Nat} {ps : List Pend} {ls : List Look} {hs : List Hp} {e : Env} (hsb : Sub nt l e) (hlo : ∀ f, okC P o.op = .read f → lo = hi ∧ lo = k)
    (hw : wpDO P prim nt o hi K l h n r k ps) :
    LeadD nt (fun d c => (dopC P nt o lo hi).run (callD P prim d) e h n r k ps ls hs c) ls (match (okC P o.op).isLoud with
      | true => k + 1
      | false => k) K := by
  unfold wpDO at hw
  cases hv : evOs o.op.operands.toList l with
  | none => rw [hv] at hw; cases hw
  | some vs =>
    rw [hv] at hw
    simp only at hw
    unfold dopC
    cases ho : okC P o.op with
    | pure f =>
      rw [ho] at hw
      simp only at hw
      have hf := okC_pure ho
      cases hp : pureV P o.op vs with
      | none => rw [hp] at hw; cases hw
      | some v =>
        rw [hp] at hw
        obtain ⟨l', e', h1, h2, h3⟩ := putC_eq hnt hsb hw
        refine ⟨l', e', h, n, r, ps, hs, h1, ⟨0, fun d _ c => ?_⟩, h3⟩
        show (opndsC nt o.op.operands.toList).run e (fun vs => f.run vs fun v => (putC nt o.dst).run e v fun e' => c e' h n r k ps ls hs) = _
        rw [opndsC_eq hsb hv, hf, pureC_eq hp, h2]
        rfl
    | read f =>
      obtain ⟨q1, q2⟩ := hlo f ho
      rw [ho] at hw
      simp only at hw
      have hf := okC_read ho
      cases hp : readV P o.op vs h with
      | none => rw [hp] at hw; cases hw
      | some v =>
        rw [hp] at hw
        obtain ⟨l', e', h1, h2, h3⟩ := putC_eq hnt hsb hw
        refine ⟨l', e', h, n, r, ps, hs, h1, ⟨0, fun d _ c => ?_⟩, h3⟩
        simp only
        rw [nbeq_true q1]
        show wK (Nat.beq lo k) ((opndsC nt o.op.operands.toList).run e fun vs => f.run vs h fun v => (putC nt o.dst).run e v fun e' => c e' h n r k ps ls hs) = _
        rw [wK_true (nbeq_true q2), opndsC_eq hsb hv, hf, readC_eq hp, h2]
        rfl
    | alloc f =>
      rw [ho] at hw
      simp only at hw
      have hf := okC_alloc ho
      cases hp : allocV P o.op vs with
      | none => rw [hp] at hw; cases hw
      | some q =>
        obtain ⟨B, mk⟩ := q
        rw [hp] at hw
        obtain ⟨l', e', h1, h2, h3⟩ := putC_eq hnt hsb hw
        refine ⟨l', e', h, n, _, _, hs, h1, ⟨0, fun d _ c => ?_⟩, h3⟩
        show (opndsC nt o.op.operands.toList).run e (fun vs => f.run vs fun b mk => r.succK fun r' => (putC nt o.dst).run e (mk r) fun e' => c e' h n r' k (⟨r, b, hi⟩ :: ps) ls hs) = _
        rw [opndsC_eq hsb hv, hf, allocC_eq hp, succK_eq, h2]
        rfl
    | loud f =>
      rw [ho] at hw
      simp only at hw
      have hf := okC_loud ho
      obtain ⟨v, h', n', ⟨d0, hd⟩, hk⟩ := loudW_lead hw
      obtain ⟨l', e', h1, h2, h3⟩ := putC_eq hnt hsb hk
      refine ⟨l', e', h', n', r, _, h' :: hs, h1, ⟨d0, fun d hdd c => ?_⟩, h3⟩
      show (opndsC nt o.op.operands.toList).run e (fun vs => flushK k ps h fun ps' h1 => f.run (callD P prim d) vs h1 n fun v h2 n' => (putC nt o.dst).run e v fun e' => c e' h2 n' r (Nat.succ k) ps' ls (h2 :: hs)) = _
      rw [opndsC_eq hsb hv, hf, flushK_eq]
      have := hd d hdd fun v h2 n' => (putC nt o.dst).run e v fun e' => c e' h2 n' r (Nat.succ k) (flushPs k ps) ls (h2 :: hs)
      exact this.trans (h2 _)

theorem wpDStep_lead {nt : Nat} (hnt : nt ≤ 100000) {ops : Array Oper} {o : Oper} {lo hi : Nat} {K : DK} {l : Ev} {h : Hp} {n r : Pos} {k : Nat} {ps : List Pend} {ls : List Look} {hs : List Hp} {e : Env} (hsb : Sub nt l e) (hlo : ∀ f, okC P o.op = .read f → lo = hi ∧ lo = k)
    (hw : wpDStep P prim nt ops o hi K l h n r k ps) :
    LeadD nt (fun d c => (dstepC P nt ops o lo hi).run (callD P prim d) e h n r k ps ls hs c) ls (match (okC P o.op).isLoud with
      | true => k + 1
      | false => k) K := by
  unfold wpDStep at hw
  unfold dstepC
  cases hg : o.guard with
  | none => rw [hg] at hw; exact wpDO_lead hnt hsb hlo hw
  | some g =>
    obtain ⟨j, want⟩ := g
    rw [hg] at hw
    simp only at hw
    split at hw
    · cases hw
    · rename_i t ht
      split at hw
      · cases hw
      · rename_i v hl
        split at hw
        · rename_i hb
          obtain ⟨l', e', h', n', r', ps', hs', h1, ⟨d0, hd⟩, h3⟩ := wpDO_lead (ls := ls) (hs := hs) hnt hsb hlo hw
          refine ⟨l', e', h', n', r', ps', hs', h1, ⟨d0, fun d hdd c => ?_⟩, h3⟩
          show (wantC nt ops o).run e ((dopC P nt o lo hi).run (callD P prim d) e h n r k ps ls hs c) _ = _
          rw [wantC_eq hsb hg ht hl, if_pos hb]
          exact hd d hdd c
        · rename_i hb
          obtain ⟨l', e', h1, h2, h3⟩ := putC_eq hnt hsb hw
          unfold skipC
          cases hil : (okC P o.op).isLoud with
          | true =>
            rw [hil] at h3
            refine ⟨l', e', h, n, r, ps, h :: hs, h1, ⟨0, fun d _ c => ?_⟩, h3⟩
            show (wantC nt ops o).run e _ ((putC nt o.dst).run e undefA fun e' => c e' h n r (Nat.succ k) ps ls (h :: hs)) = _
            rw [wantC_eq hsb hg ht hl, if_neg hb, h2]
          | false =>
            rw [hil] at h3
            refine ⟨l', e', h, n, r, ps, hs, h1, ⟨0, fun d _ c => ?_⟩, h3⟩
            show (wantC nt ops o).run e _ ((putC nt o.dst).run e undefA fun e' => c e' h n r k ps ls hs) = _
            rw [wantC_eq hsb hg ht hl, if_neg hb, h2]

theorem wpDs_lead {nt : Nat} (hnt : nt ≤ 100000) {ops : Array Oper} {ah ld : List Nat} {K : DK} {ls : List Look} : ∀ (os : List Oper) (j : Nat) {l : Ev} {h : Hp} {n r : Pos} {k : Nat} {ps : List Pend} {hs : List Hp} {e : Env}, Sub nt l e →
    fixedReads P ah ld os j k = true → wpDs P prim nt ops K os (hisOf ah ld os j) l h n r k ps →
    ∃ kk, LeadD nt (fun d c => (drawC P nt ops ah ld os j).run (callD P prim d) e h n r k ps ls hs c) ls kk K
  | [], j, l, h, n, r, k, ps, hs, e, hsb, hf, hw => ⟨k, l, e, h, n, r, ps, hs, hsb, ⟨0, fun _ _ _ => rfl⟩, hw⟩
  | o :: os, j, l, h, n, r, k, ps, hs, e, hsb, hf, hw => by
    simp only [fixedReads, Bool.and_eq_true] at hf
    obtain ⟨hf1, hf2⟩ := hf
    have hlo : ∀ f, okC P o.op = .read f → countIn (ah.getD j 0) ld = notBehind ah j ld ∧ countIn (ah.getD j 0) ld = k := fun f hof => by
      rw [hof] at hf1
      simp only [Bool.and_eq_true] at hf1
      exact ⟨nbeq_of hf1.1, nbeq_of hf1.2⟩
    obtain ⟨l1, e1, h1, n1, r1, ps1, hs1, s1, ⟨d1, q1⟩, k1⟩ := wpDStep_lead (ls := ls) (hs := hs) hnt hsb hlo (show wpDStep P prim nt ops o (notBehind ah j ld) (wpDs P prim nt ops K os (hisOf ah ld os (j + 1))) l h n r k ps from hw)
    obtain ⟨kk, l2, e2, h2, n2, r2, ps2, hs2, s2, ⟨d2, q2⟩, k2⟩ := wpDs_lead hnt os (j + 1) (hs := hs1) s1 hf2 k1
    refine ⟨kk, l2, e2, h2, n2, r2, ps2, hs2, s2, ⟨max d1 d2, fun d hd c => ?_⟩, k2⟩
    have a := q1 d (by omega) (fun e' h' n' r' k' ps' ls' hs' => (drawC P nt ops ah ld os (j + 1)).run (callD P prim d) e' h' n' r' k' ps' ls' hs' c)
    exact a.trans (q2 d (by omega) c)

def advP : Nat → Pos → Pos
  | 0, p => p
  | c + 1, p => advP c p.nxt
theorem advK_eq : ∀ (c : Nat) (k : Pos → Bool) (n : Pos), advK k c n = k (advP c n)
  | 0, k, n => rfl
  | c + 1, k, n => by
    show n.succK (advK k c) = _
    rw [succK_eq]
    exact advK_eq c k n.nxt

/-- behind a region: what was laid by is laid into the heap -/
def drawEnd (Q : Ev → Hp → Pos → Prop) : DK := fun l h n _ k ps => flushPs k ps = [] ∧ Q l (flushH k ps h) n

/-- A REGION THAT DRAWS ITS ORDER, walked in the text's order -/
theorem wpDraw_text {nt : Nat} (hnt : nt ≤ 100000) {ops : Array Oper} {his : List Nat} {al : Nat} {Q : Ev → Hp → Pos → Prop} {l : Ev} {h : Hp} {n : Pos} (hst : drawStat P ops = some (his, al))
    (hw : wpDs P prim nt ops (drawEnd Q) ops.toList his l h (advP al n) n 0 []) : wpDraw P prim nt ops Q l h n := by
  unfold drawStat at hst
  split at hst
  · rename_i g1 g2 g3
    injection hst with hst
    injection hst with q1 q2
    subst q1 q2
    intro e hs
    obtain ⟨kk, l1, e1, h1, n1, r1, ps1, hs1, s1, ⟨d1, q1⟩, k1, k2⟩ := wpDs_lead (ls := []) (hs := [h]) hnt ops.toList 0 hs g3 hw
    refine ⟨l1, e1, _, n1, s1, ⟨d1, fun d hd k => ?_⟩, k2⟩
    unfold regionC
    rw [g1, g2]
    show advK (fun n0 => (drawC P nt ops (aheads ops.toList) (louds P ops.toList 0) ops.toList 0).run (callD P prim d) e h n0 n 0 [] [] [h] fun e' h' n' _ q ps ls hs =>
      wK (looksStay hs.reverse ls) (flushK q ps h' fun ps' h2 => noPend ps' (k e' h2 n'))) (allocsIn P ops.toList) n = _
    rw [advK_eq]
    have := q1 d hd (fun e' h' n' _ q ps ls hs => wK (looksStay hs.reverse ls) (flushK q ps h' fun ps' h2 => noPend ps' (k e' h2 n')))
    refine this.trans ?_
    rw [wK_true (show looksStay hs1.reverse [] = true from rfl), flushK_eq, k1]
    rfl
  · cases hst

end
end Go.Am
