/- The abstract machine's operations, read forwards: what each yields, where it yields something. -/
import Derived.Test.YtlkglgdlnciicaaGreatDoorAmPrim
set_option linter.all false
namespace Go.Am
open Go

/-! the small parts, as equations -/
section small
variable {α : Type}
theorem getK_eq {p : Pos} : ∀ {t : PT α} {v : α} {k : α → Bool}, PT.get p t = some v → PT.getK p t k = k v := by
  induction p with
  | xH => intro t v k h; cases t with
    | L => cases h
    | N l o r => have h' : o = some v := h; subst h'; rfl
  | xO p ih => intro t v k h; cases t with
    | L => cases h
    | N l o r => exact ih (t := l) h
  | xI p ih => intro t v k h; cases t with
    | L => cases h
    | N l o r => exact ih (t := r) h

theorem setK_eq {p : Pos} {x : Option α} : ∀ {t : PT α} {k : PT α → Bool}, PT.setK p x t k = k (PT.set x p t) := by
  induction p with
  | xH => intro t k; cases t <;> rfl
  | xO p ih => intro t k; cases t with
    | L => exact ih (t := .L) (k := fun l' => k (.N l' none .L))
    | N l v r => exact ih (t := l) (k := fun l' => k (.N l' v r))
  | xI p ih => intro t k; cases t with
    | L => exact ih (t := .L) (k := fun r' => k (.N .L none r'))
    | N l v r => exact ih (t := r) (k := fun r' => k (.N l v r'))

theorem lookK_none {d : Bool} {p : Pos} {t : PT α} {k : α → Bool} (h : PT.get p t = none) : PT.lookK d p t k = d := by
  induction p generalizing t with
  | xH => cases t with
    | L => rfl
    | N l o r => have h' : o = none := h; subst h'; rfl
  | xO p ih => cases t with
    | L => rfl
    | N l o r => exact ih (t := l) h
  | xI p ih => cases t with
    | L => rfl
    | N l o r => exact ih (t := r) h

theorem nthK_eq : ∀ {l : List α} {n : Nat} {v : α} {k : α → Bool}, l[n]? = some v → nthK l n k = k v := by
  intro l
  induction l with
  | nil => intro n v k h; simp at h
  | cons x l ih =>
    intro n v k h
    cases n with
    | zero => simp at h; subst h; rfl
    | succ n => exact ih (by simpa using h)
theorem dropK_eq : ∀ {l : List α} {n : Nat} {k : List α → Bool}, n ≤ l.length → dropK l n k = k (l.drop n) := by
  intro l
  induction l with
  | nil => intro n k h; have : n = 0 := by simpa using h
           subst this; rfl
  | cons x l ih => intro n k h; cases n with
    | zero => rfl
    | succ n => exact ih (by simpa using h)
theorem takeK_eq : ∀ {l : List α} {n : Nat} {k : List α → Bool}, n ≤ l.length → takeK l n k = k (l.take n) := by
  intro l
  induction l with
  | nil => intro n k h; have : n = 0 := by simpa using h
           subst this; rfl
  | cons x l ih => intro n k h; cases n with
    | zero => rfl
    | succ n => exact ih (k := fun r => k (x :: r)) (by simpa using h)
theorem cutK_eq {l : List α} {off n : Nat} {k : List α → Bool} (h : off + n ≤ l.length) : cutK l off n k = k ((l.drop off).take n) := by
  unfold cutK
  rw [dropK_eq (by omega), takeK_eq (by simp; omega)]
theorem overK_eq : ∀ {vs l : List α} {k : List α → Bool}, vs.length ≤ l.length → overK vs l k = k (vs ++ l.drop vs.length) := by
  intro vs
  induction vs with
  | nil => intro l k h; rfl
  | cons x vs ih => intro l k h; cases l with
    | nil => simp at h
    | cons y l => exact ih (k := fun r => k (x :: r)) (by simpa using h)
theorem layK_eq : ∀ {l : List α} {n : Nat} {vs : List α} {k : List α → Bool}, n + vs.length ≤ l.length → layK l n vs k = k (l.take n ++ (vs ++ l.drop (n + vs.length))) := by
  intro l
  induction l with
  | nil =>
    intro n vs k h
    have h1 : n = 0 := by simp at h; omega
    subst h1
    have e := overK_eq (vs := vs) (l := []) (k := k) (by simpa using h)
    exact (show layK [] 0 vs k = overK vs [] k from rfl).trans (by simpa using e)
  | cons x l ih => intro n vs k h; cases n with
    | zero =>
      have e := overK_eq (vs := vs) (l := x :: l) (k := k) (by simpa using h)
      exact (show layK (x :: l) 0 vs k = overK vs (x :: l) k from rfl).trans (by simpa using e)
    | succ n =>
      have e := ih (n := n) (vs := vs) (k := fun r => k (x :: r)) (by simp at h; omega)
      rw [show n + 1 + vs.length = (n + vs.length) + 1 from by omega]
      exact (show layK (x :: l) (n + 1) vs k = layK l n vs fun r => k (x :: r) from rfl).trans (by simpa using e)
theorem appK_eq : ∀ {a b : List α} {k : List α → Bool}, appK a b k = k (a ++ b) := by
  intro a
  induction a with
  | nil => intros; rfl
  | cons x a ih => intro b k; exact ih (b := b) (k := fun r => k (x :: r))
end small

theorem succK_eq {p : Pos} : ∀ {k : Pos → Bool}, p.succK k = k p.nxt := by
  induction p with
  | xH => intro k; rfl
  | xO p _ => intro k; rfl
  | xI p ih => intro k; exact ih (k := fun q => k (.xO q))

theorem bK_t {t f : Bool} : bK true t f = t := rfl
theorem bK_f {t f : Bool} : bK false t f = f := rfl
theorem oK_some {α : Type} {x : α} {k : α → Bool} : oK (some x) k = k x := rfl

theorem wrapK_eq {k : IntKind} {n : Int} {c : AV → Bool} : wrapK k n c = c (.i k (k.wrap n)) := by
  unfold wrapK
  cases n with
  | ofNat m =>
    show bK (Nat.ble m (topOf k)) (fNat m fun m' => c (.i k (.ofNat m'))) (fInt (IntKind.wrap k (.ofNat m)) fun r => c (.i k r)) = _
    cases hb : Nat.ble m (topOf k) with
    | true =>
      rw [bK_t, fNat_eq, wrap_in k (.ofNat m) (by simp only [Int.ofNat_eq_natCast]; omega) (by have := nble_of hb; simp only [Int.ofNat_eq_natCast]; omega)]
    | false => rw [bK_f, fInt_eq]
  | negSucc m =>
    show bK (Nat.ble (m + 1) (lowOf k)) (fNat m fun m' => c (.i k (.negSucc m'))) (fInt (IntKind.wrap k (.negSucc m)) fun r => c (.i k r)) = _
    cases hb : Nat.ble (m + 1) (lowOf k) with
    | true =>
      rw [bK_t, fNat_eq, wrap_in k (.negSucc m) (by have := nble_of hb; omega) (by omega)]
    | false => rw [bK_f, fInt_eq]

theorem nble_true {a b : Nat} (h : a ≤ b) : Nat.ble a b = true := Nat.ble_eq_true_of_le h
theorem nbeq_true {a b : Nat} (h : a = b) : Nat.beq a b = true := by subst h; exact Nat.beq_refl a
theorem wK_true {x t : Bool} (h : x = true) : wK x t = t := by subst h; rfl
theorem kindEq_refl (k : IntKind) : kindEq k k = true := by cases k <;> rfl

/-! values -/
def partV (agg : Bool) (n : Nat) (cs : List AV) (off : Nat) : Option AV := match agg with
  | true => if off + n ≤ cs.length then some (.agg ((cs.drop off).take n)) else none
  | false => cs[off]?

theorem partK_eq {agg : Bool} {n : Nat} {cs : List AV} {off : Nat} {v : AV} {k} (h : partV agg n cs off = some v) : partK agg n cs off k = k v := by
  cases agg with
  | true =>
    simp only [partV] at h
    split at h
    · rename_i hl
      injection h with h
      subst h
      exact cutK_eq hl
    · cases h
  | false => exact nthK_eq h

/-- integers -/
def intV (op : BinOp) (k : IntKind) (a b : Int) : Option AV := match op with
  | .add => some (.i k (k.wrap (a + b)))
  | .sub => some (.i k (k.wrap (a - b)))
  | .mul => some (.i k (k.wrap (a * b)))
  | .quo => if b = 0 then none else some (.i k (k.wrap (a.tdiv b)))
  | .rem => if b = 0 then none else some (.i k (a.tmod b))
  | .and => if 0 ≤ a ∧ a ≤ topOf k ∧ 0 ≤ b ∧ b ≤ topOf k then some (.i k ((a.toNat &&& b.toNat : Nat) : Int)) else none
  | .or => if 0 ≤ a ∧ a ≤ topOf k ∧ 0 ≤ b ∧ b ≤ topOf k then some (.i k ((a.toNat ||| b.toNat : Nat) : Int)) else none
  | .andNot => if 0 ≤ a ∧ a ≤ topOf k ∧ 0 ≤ b ∧ b ≤ topOf k ∧ lowOf k = 0 then some (.i k ((a.toNat &&& (topOf k - b.toNat) : Nat) : Int)) else none
  | .eql => some (.b (decide (a = b)))
  | .neq => some (.b (!decide (a = b)))
  | .lss => some (.b (decide (a < b)))
  | .leq => some (.b (decide (a ≤ b)))
  | .gtr => some (.b (decide (b < a)))
  | .geq => some (.b (decide (b ≤ a)))
  | _ => none

theorem not_le_dec (a b : Int) : notB (ile b a) = decide (a < b) := by
  rw [notB_eq, ile_eq]
  by_cases h : b ≤ a
  · rw [decide_eq_true h, decide_eq_false (by omega)]; rfl
  · rw [decide_eq_false h, decide_eq_true (by omega)]; rfl
theorem ieq_dec (a b : Int) : ieq a b = decide (a = b) := by
  rw [ieq_eq]
  by_cases h : a = b
  · subst h; simp
  · rw [decide_eq_false h]; simpa using h

theorem aintC_eq {op : BinOp} {k : IntKind} {a b : Int} {v : AV} {c : AV → Bool} (h : intV op k a b = some v) : aintC op k a b c = c v := by
  cases op <;> simp only [intV] at h <;> try (cases h; done)
  case add => injection h with h; subst h; exact wrapK_eq
  case sub => injection h with h; subst h; exact wrapK_eq
  case mul => injection h with h; subst h; exact wrapK_eq
  case quo =>
    split at h
    · cases h
    · rename_i hb
      injection h with h; subst h
      show bK (ieq b 0) false (wrapK k (a.tdiv b) c) = _
      rw [ieq_dec, decide_eq_false hb, bK_f]
      exact wrapK_eq
  case rem =>
    split at h
    · cases h
    · rename_i hb
      injection h with h; subst h
      show bK (ieq b 0) false (fInt (a.tmod b) fun r => c (.i k r)) = _
      rw [ieq_dec, decide_eq_false hb, bK_f, fInt_eq]
  case and =>
    split at h
    · rename_i hb
      injection h with h; subst h
      obtain ⟨x, rfl⟩ := Int.eq_ofNat_of_zero_le hb.1
      obtain ⟨y, rfl⟩ := Int.eq_ofNat_of_zero_le hb.2.2.1
      show wK (Nat.ble x (topOf k)) (wK (Nat.ble y (topOf k)) (fNat (Nat.land x y) fun r => c (.i k (.ofNat r)))) = _
      rw [wK_true (nble_true (by omega)), wK_true (nble_true (by omega)), fNat_eq]
      rfl
    · cases h
  case or =>
    split at h
    · rename_i hb
      injection h with h; subst h
      obtain ⟨x, rfl⟩ := Int.eq_ofNat_of_zero_le hb.1
      obtain ⟨y, rfl⟩ := Int.eq_ofNat_of_zero_le hb.2.2.1
      show wK (Nat.ble x (topOf k)) (wK (Nat.ble y (topOf k)) (fNat (Nat.lor x y) fun r => c (.i k (.ofNat r)))) = _
      rw [wK_true (nble_true (by omega)), wK_true (nble_true (by omega)), fNat_eq]
      rfl
    · cases h
  case andNot =>
    split at h
    · rename_i hb
      injection h with h; subst h
      obtain ⟨x, rfl⟩ := Int.eq_ofNat_of_zero_le hb.1
      obtain ⟨y, rfl⟩ := Int.eq_ofNat_of_zero_le hb.2.2.1
      show wK (Nat.beq (lowOf k) 0) (wK (Nat.ble x (topOf k)) (wK (Nat.ble y (topOf k)) (fNat (Nat.land x (topOf k - y)) fun r => c (.i k (.ofNat r))))) = _
      rw [wK_true (nbeq_true hb.2.2.2.2), wK_true (nble_true (by omega)), wK_true (nble_true (by omega)), fNat_eq]
      rfl
    · cases h
  case eql => injection h with h; subst h; show fB (ieq a b) c = _; rw [fB_eq, ieq_dec]
  case neq => injection h with h; subst h; show fB (notB (ieq a b)) c = _; rw [fB_eq, notB_eq, ieq_dec]
  case lss => injection h with h; subst h; show fB (notB (ile b a)) c = _; rw [fB_eq, not_le_dec]
  case leq => injection h with h; subst h; show fB (ile a b) c = _; rw [fB_eq, ile_eq]
  case gtr => injection h with h; subst h; show fB (notB (ile a b)) c = _; rw [fB_eq, not_le_dec]
  case geq => injection h with h; subst h; show fB (ile b a) c = _; rw [fB_eq, ile_eq]

/-- strings -/
noncomputable def strV (op : BinOp) (a b : List Nat) : Option AV := match op with
  | .add => if a.length + b.length ≤ 1000000000 then some (.s (a ++ b)) else none
  | .eql => some (.b (decide (a = b)))
  | .neq => some (.b (!decide (a = b)))
  | .lss => some (.b (llt a b))
  | _ => none

theorem leq_dec (a b : List Nat) : leq a b = decide (a = b) := by
  rw [leq_eq]
  by_cases h : a = b
  · subst h; simp
  · rw [decide_eq_false h]; simpa using h

theorem astrC_eq {op : BinOp} {a b : List Nat} {v : AV} {c : AV → Bool} (h : strV op a b = some v) : astrC op a b c = c v := by
  cases op <;> simp only [strV] at h <;> try (cases h; done)
  case add =>
    split at h
    · rename_i hb
      injection h with h; subst h
      show wK (Nat.ble (lenN a + lenN b) 1000000000) (appK a b fun r => c (.s r)) = _
      rw [lenN_eq, lenN_eq, wK_true (nble_true hb), appK_eq]
    · cases h
  case eql => injection h with h; subst h; show fB (leq a b) c = _; rw [fB_eq, leq_dec]
  case neq => injection h with h; subst h; show fB (notB (leq a b)) c = _; rw [fB_eq, notB_eq, leq_dec]
  case lss => injection h with h; subst h; show fB (llt a b) c = _; rw [fB_eq]

/-- whether two values of a type are the same -/
def nilV (isNil : AV → Option Bool) (x y : AV) : Option Bool := match isNil x, isNil y with
  | some true, some b => some b
  | some false, some true => some false
  | _, _ => none

def eqFieldsV (cs : List (Bool × Nat × Nat × (AV → AV → Option Bool))) (xs ys : List AV) : Option Bool := match cs with
  | [] => some true
  | c :: r => match partV c.1 c.2.1 xs c.2.2.1, partV c.1 c.2.1 ys c.2.2.1 with
    | some x, some y => match c.2.2.2 x y with
      | some true => eqFieldsV r xs ys
      | some false => some false
      | none => none
    | _, _ => none

def fieldEqsV (eq : TypeId → AV → AV → Option Bool) (P : Program) : List Field → Option (List (Bool × Nat × Nat × (AV → AV → Option Bool)))
  | [] => some []
  | f :: fs => match isAggT P f.type, szT P f.type, fieldEqsV eq P fs with
    | some a, some n, some r => match f.name == "_" with
      | true => some r
      | false => some ((a, n, f.offset, eq f.type) :: r)
    | _, _, _ => none

noncomputable def eqV (P : Program) : Nat → TypeId → AV → AV → Option Bool
  | 0, _, _, _ => none
  | d + 1, t, x, y => match P.underlying t with
    | some .bool => match x, y with
      | .b a, .b b => some (a == b)
      | _, _ => none
    | some (.int _) => match x, y with
      | .i k a, .i j b => if k = j then some (decide (a = b)) else none
      | _, _ => none
    | some .string => match x, y with
      | .s a, .s b => some (decide (a = b))
      | _, _ => none
    | some (.pointer e) => match szT P e with
      | some (_ + 1) => match x, y with
        | .ptr i o, .ptr j p => match i.eq j with
          | true => some (decide (o = p))
          | false => none
        | _, _ => nilV nilP x y
      | _ => none
    | some (.interface _) => nilV nilI x y
    | some (.slice _) => nilV nilS x y
    | some (.map _ _) => nilV nilM x y
    | some (.func _ _ _) => nilV nilF x y
    | some (.struct fs) => match P.stoodInHeld t, fieldEqsV (eqV P d) P fs.toList, x, y with
      | false, some cs, .agg a, .agg b => eqFieldsV cs a b
      | _, _, _, _ => none
    | _ => none

theorem eqNilK_eq {isNil : AV → Option Bool} {x y : AV} {r : Bool} {k : Bool → Bool} (h : nilV isNil x y = some r) : eqNilK isNil x y k = k r := by
  unfold nilV at h
  unfold eqNilK
  cases hx : isNil x with
  | none => rw [hx] at h; cases h
  | some a =>
    cases hy : isNil y with
    | none => rw [hx, hy] at h; cases a <;> cases h
    | some b =>
      rw [hx, hy] at h
      cases a <;> cases b <;> first | (cases h; done) | (injection h with h; subst h; rfl)

/-- the closures of fields, and what they yield -/
def FieldsAgree : List (Bool × Nat × Nat × EqC) → List (Bool × Nat × Nat × (AV → AV → Option Bool)) → Prop
  | [], [] => True
  | c :: cs, d :: ds => c.1 = d.1 ∧ c.2.1 = d.2.1 ∧ c.2.2.1 = d.2.2.1 ∧ (∀ x y r k, d.2.2.2 x y = some r → c.2.2.2.run x y k = k r) ∧ FieldsAgree cs ds
  | _, _ => False

theorem eqFields_eq : ∀ {cs : List (Bool × Nat × Nat × EqC)} {ds : List (Bool × Nat × Nat × (AV → AV → Option Bool))}, FieldsAgree cs ds → ∀ {xs ys : List AV} {r : Bool} {k : Bool → Bool}, eqFieldsV ds xs ys = some r → eqFields cs xs ys k = k r
  | [], [], _, xs, ys, r, k, h => by simp only [eqFieldsV] at h; injection h with h; subst h; rfl
  | [], _ :: _, h, _, _, _, _, _ => h.elim
  | _ :: _, [], h, _, _, _, _, _ => h.elim
  | c :: cs, d :: ds, hg, xs, ys, r, k, h => by
    obtain ⟨h1, h2, h3, h4, h5⟩ := hg
    show partK c.1 c.2.1 xs c.2.2.1 (fun x => partK c.1 c.2.1 ys c.2.2.1 fun y => c.2.2.2.run x y fun r => bK r (eqFields cs xs ys k) (k false)) = _
    rw [h1, h2, h3]
    simp only [eqFieldsV] at h
    cases hx : partV d.1 d.2.1 xs d.2.2.1 with
    | none => rw [hx] at h; cases h
    | some x =>
      cases hy : partV d.1 d.2.1 ys d.2.2.1 with
      | none => rw [hx, hy] at h; cases h
      | some y =>
        rw [hx, hy] at h
        rw [partK_eq hx, partK_eq hy]
        simp only at h
        cases hq : d.2.2.2 x y with
        | none => rw [hq] at h; cases h
        | some b =>
          rw [hq] at h
          rw [h4 x y b _ hq]
          cases b with
          | true => exact eqFields_eq h5 h
          | false => injection h with h; subst h; rfl

theorem fieldEqs_agree {P : Program} {eqc : TypeId → EqC} {eqv : TypeId → AV → AV → Option Bool} (h : ∀ t x y r k, eqv t x y = some r → (eqc t).run x y k = k r) :
    ∀ {fs : List Field} {ds}, fieldEqsV eqv P fs = some ds → ∃ cs, fieldEqs eqc P fs = some cs ∧ FieldsAgree cs ds
  | [], ds, e => by simp only [fieldEqsV] at e; injection e with e; subst e; exact ⟨[], rfl, trivial⟩
  | f :: fs, ds, e => by
    simp only [fieldEqsV] at e
    simp only [fieldEqs]
    cases ha : isAggT P f.type with
    | none => rw [ha] at e; cases e
    | some a =>
      cases hn : szT P f.type with
      | none => rw [ha, hn] at e; cases e
      | some n =>
        cases hr : fieldEqsV eqv P fs with
        | none => rw [ha, hn, hr] at e; cases e
        | some r =>
          obtain ⟨cs, h1, h2⟩ := fieldEqs_agree h hr
          rw [ha, hn, hr] at e
          rw [h1]
          simp only at e ⊢
          cases hu : (f.name == "_") with
          | true => rw [hu] at e; injection e with e; subst e; exact ⟨cs, rfl, h2⟩
          | false => rw [hu] at e; injection e with e; subst e; exact ⟨_, rfl, rfl, rfl, rfl, fun x y r k hq => h _ x y r k hq, h2⟩

theorem eqC_eq (P : Program) : ∀ (d : Nat) (t : TypeId) (x y : AV) (r : Bool) (k : Bool → Bool), eqV P d t x y = some r → (eqC P d t).run x y k = k r
  | 0, _, _, _, _, _, h => by cases h
  | d + 1, t, x, y, r, k, h => by
    simp only [eqV] at h
    unfold eqC
    cases hu : P.underlying t with
    | none => rw [hu] at h; cases h
    | some D =>
      rw [hu] at h
      cases D <;> simp only at h <;> try (cases h; done)
      case bool =>
        cases x <;> cases y <;> simp only at h <;> try (cases h; done)
        injection h with h
        subst h
        rename_i a b
        cases a <;> cases b <;> rfl
      case int =>
        cases x <;> cases y <;> simp only at h <;> try (cases h; done)
        split at h
        · rename_i hk
          injection h with h
          subst h hk
          show wK (kindEq _ _) (k (ieq _ _)) = _
          rw [wK_true (kindEq_refl _), ieq_dec]
        · cases h
      case string =>
        cases x <;> cases y <;> simp only at h <;> try (cases h; done)
        injection h with h
        subst h
        show k (leq _ _) = _
        rw [leq_dec]
      case pointer e =>
        cases hs : szT P e with
        | none => rw [hs] at h; cases h
        | some z =>
          cases z with
          | zero => rw [hs] at h; cases h
          | succ z =>
            rw [hs] at h
            simp only [hs] at h ⊢
            cases x <;> cases y <;> simp only at h <;> try (simp only [nilV, nilP] at h; cases h; done)
            · simp only [nilV, nilP] at h; injection h with h; subst h; rfl
            · simp only [nilV, nilP] at h; injection h with h; subst h; rfl
            · simp only [nilV, nilP] at h; injection h with h; subst h; rfl
            · rename_i i o j p
              cases hij : i.eq j with
              | true =>
                rw [hij] at h
                injection h with h
                subst h
                show wK (i.eq j) (k (Nat.beq o p)) = _
                rw [wK_true hij]
                congr 1
                by_cases hop : o = p
                · subst hop; simp
                · rw [decide_eq_false hop]
                  cases hb : Nat.beq o p with
                  | true => exact absurd (nbeq_of hb) hop
                  | false => rfl
              | false => rw [hij] at h; cases h
      case interface => exact eqNilK_eq h
      case slice => exact eqNilK_eq h
      case map => exact eqNilK_eq h
      case func => exact eqNilK_eq h
      case struct fs =>
        cases hst : P.stoodInHeld t with
        | true => rw [hst] at h; cases h
        | false =>
          rw [hst] at h
          cases hf : fieldEqsV (eqV P d) P fs.toList with
          | none => simp only [hf] at h; cases h
          | some ds =>
            simp only [hf] at h
            obtain ⟨cs, h1, h2⟩ := fieldEqs_agree (eqc := eqC P d) (eqC_eq P d) hf
            simp only [h1]
            cases x <;> cases y <;> simp only at h <;> try (cases h; done)
            exact eqFields_eq h2 h

end Go.Am
/- The abstract machine's operations without a heap, read forwards. -/
namespace Go.Am
open Go

section
variable {P : Program}

def int2V (op : BinOp) (a b : AV) : Option AV := match a, b with
  | .i k n, .i j m => if kindEq k j = true then intV op k n m else none
  | _, _ => none

noncomputable def oth2V (P : Program) (op : BinOp) (t : TypeId) (x y : Operand) (a b : AV) : Option AV := match guardB P t x y, op with
  | true, .eql => match eqV P 20 t a b with
    | some r => some (.b r)
    | none => none
  | true, .neq => match eqV P 20 t a b with
    | some r => some (.b !r)
    | none => none
  | _, _ => none

noncomputable def binV (P : Program) (op : BinOp) (t : TypeId) (x y : Operand) (a b : AV) : Option AV := match P.underlying t with
  | some (.int _) => match op with
    | .shl => match a, b with
      | .i k n, .i _ m => if 0 ≤ m then some (.i k (k.wrap (n * 2 ^ (Nat.min m.toNat k.bits)))) else none
      | _, _ => none
    | .shr => match a, b with
      | .i k n, .i _ m => if 0 ≤ m then some (.i k (n.fdiv (2 ^ (Nat.min m.toNat k.bits)))) else none
      | _, _ => none
    | op => int2V op a b
  | some .string => match a, b with
    | .s n, .s m => strV op n m
    | _, _ => none
  | some _ => oth2V P op t x y a b
  | none => none

theorem binC_int_rest {op : BinOp} {t : TypeId} {x y : Operand} {ik : IntKind} (hu : P.underlying t = some (.int ik)) (h1 : op ≠ .shl) (h2 : op ≠ .shr) (vs : List AV) (c : AV → Bool) :
    (binC P op t x y).run vs c = duo vs fun a b => asI a fun k n => asI b fun j m => wK (kindEq k j) (aintC op k n m c) := by
  unfold binC
  rw [hu]
  cases op <;> first | rfl | exact absurd rfl h1 | exact absurd rfl h2

theorem binC_eq {op : BinOp} {t : TypeId} {x y : Operand} {a b v : AV} {c : AV → Bool} (h : binV P op t x y a b = some v) : (binC P op t x y).run [a, b] c = c v := by
  unfold binV at h
  cases hu : P.underlying t with
  | none => rw [hu] at h; cases h
  | some D =>
    rw [hu] at h
    by_cases hi : ∃ ik, D = .int ik
    · obtain ⟨ik, rfl⟩ := hi
      by_cases h1 : op = .shl
      · subst h1
        simp only at h
        cases a <;> cases b <;> simp only at h <;> try (cases h; done)
        split at h
        · rename_i hm
          injection h with h
          subst h
          unfold binC
          rw [hu]
          show wK (ile 0 _) (fNat _ fun r => wrapK _ _ c) = _
          rw [wK_true (by rw [ile_eq]; exact decide_eq_true hm), fNat_eq, wrapK_eq]
        · cases h
      · by_cases h2 : op = .shr
        · subst h2
          simp only at h
          cases a <;> cases b <;> simp only at h <;> try (cases h; done)
          split at h
          · rename_i hm
            injection h with h
            subst h
            unfold binC
            rw [hu]
            rename_i k n j m
            show wK (ile 0 m) (fNat (Nat.min m.toNat k.bits) fun r => fInt (n.fdiv (2 ^ r)) fun q => c (.i k q)) = _
            rw [wK_true (by rw [ile_eq]; exact decide_eq_true hm), fNat_eq, fInt_eq]
          · cases h
        · rw [binC_int_rest hu h1 h2]
          have h' : int2V op a b = some v := by
            cases op <;> first | exact h | exact absurd rfl h1 | exact absurd rfl h2
          unfold int2V at h'
          cases a <;> cases b <;> simp only at h' <;> try (cases h'; done)
          split at h'
          · rename_i hk
            show wK (kindEq _ _) (aintC op _ _ _ c) = _
            rw [wK_true hk, aintC_eq h']
          · cases h'
    · by_cases hs : D = .string
      · subst hs
        simp only at h
        cases a <;> cases b <;> simp only at h <;> try (cases h; done)
        unfold binC
        rw [hu]
        exact astrC_eq h
      · have h' : oth2V P op t x y a b = some v := by
          cases D <;> first | exact h | exact absurd ⟨_, rfl⟩ hi | exact absurd rfl hs
        have e : (binC P op t x y).run [a, b] c = (match guardB P t x y, op with
            | true, .eql => (⟨fun vs c => duo vs fun a b => (eqC P 20 t).run a b fun r => fB r c⟩ : PureC)
            | true, .neq => ⟨fun vs c => duo vs fun a b => (eqC P 20 t).run a b fun r => fB (notB r) c⟩
            | _, _ => pureBad).run [a, b] c := by
          unfold binC
          rw [hu]
          cases D <;> first | rfl | exact absurd ⟨_, rfl⟩ hi | exact absurd rfl hs
        rw [e]
        unfold oth2V at h'
        cases hg : guardB P t x y with
        | false => rw [hg] at h'; cases op <;> cases h'
        | true =>
          rw [hg] at h'
          cases op <;> simp only at h' <;> try (cases h'; done)
          · cases hq : eqV P 20 t a b with
            | none => rw [hq] at h'; cases h'
            | some r =>
              rw [hq] at h'
              injection h' with h'
              subst h'
              show (eqC P 20 t).run a b (fun r => fB r c) = _
              rw [eqC_eq P 20 t a b r _ hq, fB_eq]
          · cases hq : eqV P 20 t a b with
            | none => rw [hq] at h'; cases h'
            | some r =>
              rw [hq] at h'
              injection h' with h'
              subst h'
              show (eqC P 20 t).run a b (fun r => fB (notB r) c) = _
              rw [eqC_eq P 20 t a b r _ hq, fB_eq, notB_eq]

/-- cells of a value -/
def cellsA : AV → Option (List AV)
  | .agg l => some l
  | .tup _ => none
  | v => some [v]
theorem cellsV_eq {v : AV} {xs : List AV} {c : List AV → Bool} (h : cellsA v = some xs) : cellsV v c = c xs := by
  cases v <;> simp only [cellsA] at h <;> first | (injection h with h; subst h; rfl) | cases h

def fillV : List (Nat × Nat) → List AV → List AV → Option (List AV)
  | [], cells, _ => some cells
  | _ :: _, _, [] => none
  | p :: ps, cells, v :: r => match cellsA v with
    | some xs => if xs.length = p.2 ∧ p.1 + xs.length ≤ cells.length then fillV ps (cells.take p.1 ++ (xs ++ cells.drop (p.1 + xs.length))) r else none
    | none => none
theorem fillK_eq : ∀ {ps : List (Nat × Nat)} {cells vs out : List AV} {c : List AV → Bool}, fillV ps cells vs = some out → fillK cells ps vs c = c out
  | [], cells, vs, out, c, h => by simp only [fillV] at h; injection h with h; subst h; rfl
  | p :: ps, cells, [], out, c, h => by simp only [fillV] at h; cases h
  | p :: ps, cells, v :: r, out, c, h => by
    simp only [fillV] at h
    cases hv : cellsA v with
    | none => rw [hv] at h; cases h
    | some xs =>
      rw [hv] at h
      simp only at h
      split at h
      · rename_i hc
        show cellsV v (fun xs => wK (Nat.beq (lenN xs) p.2) (layK cells p.1 xs fun cs => fillK cs ps r c)) = _
        rw [cellsV_eq hv, wK_true (nbeq_true (by rw [lenN_eq]; exact hc.1)), layK_eq hc.2]
        exact fillK_eq h
      · cases h

/-- an index below len -/
def idxV (v : AV) (len : Nat) : Option Nat := match v with
  | .i _ n => if 0 ≤ n ∧ n < len then some n.toNat else none
  | _ => none
theorem idxK_eq {v : AV} {len j : Nat} {k : Nat → Bool} (h : idxV v len = some j) : idxK v len k = k j := by
  cases v <;> simp only [idxV] at h <;> try (cases h; done)
  split at h
  · rename_i n hn
    obtain ⟨m, rfl⟩ := Int.eq_ofNat_of_zero_le hn.1
    injection h with h
    subst h
    show wK (Nat.ble (Nat.succ m) len) (k m) = _
    rw [wK_true (nble_true (by omega))]
    rfl
  · cases h

/-- a bound, or the one that stands for it -/
def bndV (has : Bool) (vs : List AV) (dflt most : Nat) : Option (Nat × List AV) := match has with
  | false => some (dflt, vs)
  | true => match vs with
    | .i _ n :: r => if 0 ≤ n ∧ n ≤ most then some (n.toNat, r) else none
    | _ => none
theorem boundK_eq {v : AV} {y j : Nat} {k : Nat → Bool} {i : IntKind} {n : Int} (hv : v = .i i n) (h : 0 ≤ n ∧ n ≤ y) (hj : j = n.toNat) : boundK v y k = k j := by
  subst hv hj
  obtain ⟨m, rfl⟩ := Int.eq_ofNat_of_zero_le h.1
  show wK (Nat.ble m y) (k m) = _
  rw [wK_true (nble_true (by omega))]
  rfl
theorem hiK_eq {has : Bool} {vs r : List AV} {dflt most m : Nat} {k : Nat → List AV → Bool} (h : bndV has vs dflt most = some (m, r)) : hiK has vs dflt most k = k m r := by
  cases has with
  | false => simp only [bndV] at h; injection h with h; injection h with h1 h2; subst h1 h2; rfl
  | true =>
    cases vs with
    | nil => simp only [bndV] at h; cases h
    | cons v vs =>
      cases v <;> simp only [bndV] at h <;> try (cases h; done)
      split at h
      · rename_i ik n hn
        injection h with h
        injection h with h1 h2
        subst h2
        exact boundK_eq (i := ik) (n := n) rfl hn h1.symm
      · cases h

def sliceStrV (lo hi : Bool) (l : List Nat) (bs : List AV) : Option AV := match lo with
  | false => match bndV hi bs l.length l.length with
    | some (h, _) => some (.s (l.take h))
    | none => none
  | true => match bs with
    | .i _ n :: bs' => match bndV hi bs' l.length l.length with
      | some (h, _) => if 0 ≤ n ∧ n ≤ h ∧ h ≤ l.length then some (.s ((l.drop n.toNat).take (h - n.toNat))) else none
      | none => none
    | _ => none

def cutSlV (sz : Nat) (x : AV) (l h m : Nat) (mx : Bool) : Option AV := match x with
  | .nilsl => if m = 0 then some .nilsl else none
  | .sl id off _ cap esz => if sz = esz then (match cap with
    | some _ => some (.sl id (off + l * esz) (h - l) (some (m - l)) esz)
    | none => match mx with
      | false => some (.sl id (off + l * esz) (h - l) none esz)
      | true => some (.sl id (off + l * esz) (h - l) (some (m - l)) esz)) else none
  | _ => none

theorem cutSl_eq {sz : Nat} {x v : AV} {l h m : Nat} {mx : Bool} {c : AV → Bool} (hv : cutSlV sz x l h m mx = some v) : cutSl sz x l h m mx c = c v := by
  cases x <;> simp only [cutSlV] at hv <;> try (cases hv; done)
  · split at hv
    · rename_i hm
      injection hv with hv
      subst hv hm
      rfl
    · cases hv
  · rename_i id off len cap esz
    split at hv
    · rename_i hs
      subst hs
      show wK (Nat.beq sz sz) (fNat (h - l) fun n => fNat (off + l * sz) fun o => Option.rec (motive := fun _ => Bool)
        (Bool.rec (motive := fun _ => Bool) (c (.sl id o n none sz)) (fNat (m - l) fun q => c (.sl id o n (some q) sz)) mx)
        (fun _ => fNat (m - l) fun q => c (.sl id o n (some q) sz)) cap) = _
      rw [wK_true (nbeq_true rfl), fNat_eq, fNat_eq]
      cases cap with
      | some q =>
        injection hv with hv
        subst hv
        show fNat (m - l) _ = _
        rw [fNat_eq]
      | none =>
        cases mx with
        | false => injection hv with hv; subst hv; rfl
        | true => injection hv with hv; subst hv; show fNat (m - l) _ = _; rw [fNat_eq]
    · cases hv

def sliceSlV (sz : Nat) (lo hi mx : Bool) (x : AV) (bs : List AV) : Option AV := match lo with
  | false => match bndV hi bs (slLen x) (slMost x) with
    | some (h, r) => match bndV mx r (slMost x) (slMost x) with
      | some (m, _) => if h ≤ m then cutSlV sz x 0 h m mx else none
      | none => none
    | none => none
  | true => match bs with
    | .i _ n :: bs' => match bndV hi bs' (slLen x) (slMost x) with
      | some (h, r) => match bndV mx r (slMost x) (slMost x) with
        | some (m, _) => if h ≤ m ∧ 0 ≤ n ∧ n ≤ h then cutSlV sz x n.toNat h m mx else none
        | none => none
      | none => none
    | _ => none

def sliceV (P : Program) (t : TypeId) (lo hi mx : Bool) (vs : List AV) : Option AV := match P.underlying t with
  | some .string => match mx, vs with
    | false, .s l :: bs => sliceStrV lo hi l bs
    | _, _ => none
  | some (.slice e) => match szT P e, (mx && !hi), vs with
    | some sz, false, x :: bs => sliceSlV sz lo hi mx x bs
    | _, _, _ => none
  | _ => none

theorem sliceC_eq {t : TypeId} {lo hi mx : Bool} {vs : List AV} {v : AV} {c : AV → Bool} (h : sliceV P t lo hi mx vs = some v) : (sliceC P t lo hi mx).run vs c = c v := by
  unfold sliceV at h
  unfold sliceC
  cases hu : P.underlying t with
  | none => rw [hu] at h; cases h
  | some D =>
    rw [hu] at h
    cases D <;> simp only at h <;> try (cases h; done)
    case string =>
      cases mx with
      | true => cases vs <;> cases h
      | false =>
        cases vs with
        | nil => cases h
        | cons x bs =>
          cases x <;> simp only at h <;> try (cases h; done)
          rename_i l
          show fNat (lenN l) (fun n => Bool.rec (motive := fun _ => Bool)
            (hiK hi bs n n fun h _ => cutK l 0 h fun r => c (.s r))
            (hd bs fun v0 bs' => hiK hi bs' n n fun h _ => boundK v0 h fun l0 => cutK l l0 (h - l0) fun r => c (.s r)) lo) = _
          rw [fNat_eq, lenN_eq]
          cases lo with
          | false =>
            simp only [sliceStrV] at h
            cases hb : bndV hi bs l.length l.length with
            | none => rw [hb] at h; cases h
            | some p =>
              obtain ⟨m, r⟩ := p
              rw [hb] at h
              injection h with h
              subst h
              show hiK hi bs l.length l.length (fun h _ => cutK l 0 h fun r => c (.s r)) = _
              rw [hiK_eq hb]
              have hm : m ≤ l.length := by
                cases hi with
                | false => simp only [bndV] at hb; injection hb with hb; injection hb with h1 _; omega
                | true =>
                  cases bs with
                  | nil => simp only [bndV] at hb; cases hb
                  | cons y ys =>
                    cases y <;> simp only [bndV] at hb <;> try (cases hb; done)
                    split at hb
                    · injection hb with hb; injection hb with h1 _; omega
                    · cases hb
              rw [cutK_eq (by omega)]
              simp
          | true =>
            cases bs with
            | nil => simp only [sliceStrV] at h; cases h
            | cons y bs =>
              cases y <;> simp only [sliceStrV] at h <;> try (cases h; done)
              rename_i ik n
              cases hb : bndV hi bs l.length l.length with
              | none => rw [hb] at h; cases h
              | some p =>
                obtain ⟨m, r⟩ := p
                rw [hb] at h
                simp only at h
                split at h
                · rename_i hc
                  injection h with h
                  subst h
                  show hiK hi bs l.length l.length (fun h _ => boundK (.i ik n) h fun l0 => cutK l l0 (h - l0) fun r => c (.s r)) = _
                  rw [hiK_eq hb, boundK_eq rfl ⟨hc.1, hc.2.1⟩ rfl, cutK_eq (by omega)]
                · cases h
    case slice e =>
      cases hs : szT P e with
      | none => rw [hs] at h; cases h
      | some sz =>
        cases hm : (mx && !hi) with
        | true => rw [hs, hm] at h; cases vs <;> cases h
        | false =>
          rw [hs, hm] at h
          cases vs with
          | nil => cases h
          | cons x bs =>
            simp only [hs] at h ⊢
            cases lo with
            | false =>
              simp only [sliceSlV] at h
              cases hb : bndV hi bs (slLen x) (slMost x) with
              | none => rw [hb] at h; cases h
              | some p =>
                obtain ⟨q, r⟩ := p
                rw [hb] at h
                simp only at h
                cases hb2 : bndV mx r (slMost x) (slMost x) with
                | none => rw [hb2] at h; cases h
                | some p2 =>
                  obtain ⟨m, r2⟩ := p2
                  rw [hb2] at h
                  simp only at h
                  split at h
                  · rename_i hc
                    show hiK hi bs (slLen x) (slMost x) (fun h r => hiK mx r (slMost x) (slMost x) fun m _ => wK (Nat.ble h m) (cutSl sz x 0 h m mx c)) = _
                    rw [hiK_eq hb, hiK_eq hb2, wK_true (nble_true hc), cutSl_eq h]
                  · cases h
            | true =>
              cases bs with
              | nil => simp only [sliceSlV] at h; cases h
              | cons y bs =>
                cases y <;> simp only [sliceSlV] at h <;> try (cases h; done)
                rename_i ik n
                cases hb : bndV hi bs (slLen x) (slMost x) with
                | none => rw [hb] at h; cases h
                | some p =>
                  obtain ⟨q, r⟩ := p
                  rw [hb] at h
                  simp only at h
                  cases hb2 : bndV mx r (slMost x) (slMost x) with
                  | none => rw [hb2] at h; cases h
                  | some p2 =>
                    obtain ⟨m, r2⟩ := p2
                    rw [hb2] at h
                    simp only at h
                    split at h
                    · rename_i hc
                      show hiK hi bs (slLen x) (slMost x) (fun h r => hiK mx r (slMost x) (slMost x) fun m _ => wK (Nat.ble h m) (boundK (.i ik n) h fun l0 => cutSl sz x l0 h m mx c)) = _
                      rw [hiK_eq hb, hiK_eq hb2, wK_true (nble_true hc.1), boundK_eq rfl hc.2 rfl, cutSl_eq h]
                    · cases h

end
end Go.Am
