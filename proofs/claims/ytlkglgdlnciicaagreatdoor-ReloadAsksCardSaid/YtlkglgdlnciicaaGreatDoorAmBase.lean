/- The abstract machine's small parts: what its eliminators, trees and lists come to. -/
import Derived.Test.YtlkglgdlnciicaaGreatDoorAmDef
namespace Go.Am

/-! places -/
def Pos.num : Pos → Nat
  | .xH => 1
  | .xO p => 2 * p.num
  | .xI p => 2 * p.num + 1

theorem Pos.num_pos : ∀ p : Pos, 0 < p.num
  | .xH => by simp [Pos.num]
  | .xO p => by have := p.num_pos; simp [Pos.num]; omega
  | .xI p => by simp [Pos.num]

theorem Pos.num_inj : ∀ p q : Pos, p.num = q.num → p = q
  | .xH, .xH, _ => rfl
  | .xH, .xO q, h => by have := q.num_pos; simp [Pos.num] at h; omega
  | .xH, .xI q, h => by have := q.num_pos; simp [Pos.num] at h; omega
  | .xO p, .xH, h => by have := p.num_pos; simp [Pos.num] at h; omega
  | .xO p, .xO q, h => by rw [p.num_inj q (by simp [Pos.num] at h; omega)]
  | .xO p, .xI q, h => by simp [Pos.num] at h; omega
  | .xI p, .xH, h => by have := p.num_pos; simp [Pos.num] at h; omega
  | .xI p, .xO q, h => by simp [Pos.num] at h; omega
  | .xI p, .xI q, h => by rw [p.num_inj q (by simp [Pos.num] at h; omega)]

def Pos.nxt : Pos → Pos
  | .xH => .xO .xH
  | .xO p => .xI p
  | .xI p => .xO p.nxt

theorem Pos.num_nxt : ∀ p : Pos, p.nxt.num = p.num + 1
  | .xH => rfl
  | .xO p => rfl
  | .xI p => by simp [Pos.nxt, Pos.num, p.num_nxt]; omega

theorem succK_of {p : Pos} : ∀ {k : Pos → Bool}, p.succK k = true → k p.nxt = true := by
  induction p with
  | xH => exact fun h => h
  | xO p _ => exact fun h => h
  | xI p ih => exact fun {k} h => ih (k := fun q => k (.xO q)) h

theorem Pos.eq_of {p : Pos} : ∀ {q : Pos}, p.eq q = true → p = q := by
  induction p with
  | xH => intro q h; cases q <;> first | rfl | cases h
  | xO p ih => intro q h; cases q <;> first | exact congrArg _ (ih h) | cases h
  | xI p ih => intro q h; cases q <;> first | exact congrArg _ (ih h) | cases h

theorem Pos.eq_refl (p : Pos) : p.eq p = true := by
  induction p with
  | xH => rfl
  | xO p ih => exact ih
  | xI p ih => exact ih

theorem Pos.eq_false {p q : Pos} (h : p.eq q = false) : p ≠ q := fun e => by subst e; rw [p.eq_refl] at h; cases h

theorem num_posF : ∀ (f k : Nat), 0 < k → k < 2 ^ f → (posF f k).num = k := by
  intro f
  induction f with
  | zero => intro k h1 h2; simp at h2; omega
  | succ f ih =>
    intro k h1 h2
    have e : posF (f + 1) k = if k ≤ 1 then Pos.xH else if k % 2 = 0 then .xO (posF f (k / 2)) else .xI (posF f (k / 2)) := by
      show Bool.rec (motive := fun _ => Pos) (Bool.rec (motive := fun _ => Pos) (Pos.xI (posF f (k / 2))) (.xO (posF f (k / 2))) (Nat.beq (k % 2) 0)) .xH (Nat.ble k 1) = _
      by_cases hk : k ≤ 1
      · have : Nat.ble k 1 = true := Nat.ble_eq_true_of_le hk
        rw [this, if_pos hk]
      · have : Nat.ble k 1 = false := by cases hb : Nat.ble k 1 with
          | false => rfl
          | true => exact absurd (Nat.le_of_ble_eq_true hb) hk
        rw [this, if_neg hk]
        by_cases hm : k % 2 = 0
        · rw [if_pos hm, hm]; rfl
        · have : Nat.beq (k % 2) 0 = false := by cases hb : Nat.beq (k % 2) 0 with
            | false => rfl
            | true => exact absurd (Nat.eq_of_beq_eq_true hb) hm
          rw [if_neg hm, this]
    rw [e]
    by_cases hk : k ≤ 1
    · rw [if_pos hk]; simp [Pos.num]; omega
    · rw [if_neg hk]
      have h3 : k / 2 < 2 ^ f := by rw [Nat.pow_succ] at h2; omega
      have := ih (k / 2) (by omega) h3
      by_cases hm : k % 2 = 0
      · rw [if_pos hm]; simp [Pos.num, this]; omega
      · rw [if_neg hm]; simp [Pos.num, this]; omega

theorem posOf_inj {s t : Nat} (hs : s < 1000000) (ht : t < 1000000) (h : posOf s = posOf t) : s = t := by
  have a := num_posF 20 (s + 1) (by omega) (by omega)
  have b := num_posF 20 (t + 1) (by omega) (by omega)
  unfold posOf at h
  rw [h, b] at a
  omega

/-! trees -/
section tree
variable {α : Type}
def PT.get : Pos → PT α → Option α
  | _, .L => none
  | .xH, .N _ v _ => v
  | .xO p, .N l _ _ => get p l
  | .xI p, .N _ _ r => get p r

def PT.set (x : Option α) : Pos → PT α → PT α
  | .xH, .L => .N .L x .L
  | .xO p, .L => .N (set x p .L) none .L
  | .xI p, .L => .N .L none (set x p .L)
  | .xH, .N l _ r => .N l x r
  | .xO p, .N l v r => .N (set x p l) v r
  | .xI p, .N l v r => .N l v (set x p r)

theorem get_L (p : Pos) : PT.get p (.L : PT α) = none := by cases p <;> rfl

theorem getK_of {p : Pos} : ∀ {t : PT α} {k : α → Bool}, PT.getK p t k = true → ∃ v, PT.get p t = some v ∧ k v = true := by
  induction p with
  | xH => intro t k h; cases t with
    | L => cases h
    | N l v r => cases v with
      | none => cases h
      | some v => exact ⟨v, rfl, h⟩
  | xO p ih => intro t k h; cases t with
    | L => cases h
    | N l v r => exact ih h
  | xI p ih => intro t k h; cases t with
    | L => cases h
    | N l v r => exact ih h

theorem lookK_of {d : Bool} {p : Pos} : ∀ {t : PT α} {k : α → Bool}, PT.lookK d p t k = true → (PT.get p t = none ∧ d = true) ∨ ∃ v, PT.get p t = some v ∧ k v = true := by
  induction p with
  | xH => intro t k h; cases t with
    | L => exact .inl ⟨rfl, h⟩
    | N l v r => cases v with
      | none => exact .inl ⟨rfl, h⟩
      | some v => exact .inr ⟨v, rfl, h⟩
  | xO p ih => intro t k h; cases t with
    | L => exact .inl ⟨rfl, h⟩
    | N l v r => exact ih h
  | xI p ih => intro t k h; cases t with
    | L => exact .inl ⟨rfl, h⟩
    | N l v r => exact ih h

theorem setK_of {p : Pos} {x : Option α} : ∀ {t : PT α} {k : PT α → Bool}, PT.setK p x t k = true → k (PT.set x p t) = true := by
  induction p with
  | xH => intro t k h; cases t <;> exact h
  | xO p ih => intro t k h; cases t with
    | L => exact ih (k := fun l' => k (.N l' none .L)) h
    | N l v r => exact ih (k := fun l' => k (.N l' v r)) h
  | xI p ih => intro t k h; cases t with
    | L => exact ih (k := fun r' => k (.N .L none r')) h
    | N l v r => exact ih (k := fun r' => k (.N l v r')) h

theorem get_set_same (x : Option α) : ∀ (p : Pos) (t : PT α), PT.get p (PT.set x p t) = x := by
  intro p
  induction p with
  | xH => intro t; cases t <;> rfl
  | xO p ih => intro t; cases t <;> exact ih _
  | xI p ih => intro t; cases t <;> exact ih _

theorem get_set_ne (x : Option α) : ∀ (p q : Pos) (t : PT α), p ≠ q → PT.get q (PT.set x p t) = PT.get q t := by
  intro p
  induction p with
  | xH => intro q t h; cases q <;> cases t <;> first | exact absurd rfl h | rfl | exact get_L _
  | xO p ih => intro q t h; cases q with
    | xH => cases t <;> rfl
    | xO q => cases t with
      | L => exact (ih q .L (fun e => h (e ▸ rfl))).trans (get_L q)
      | N l v r => exact ih q l (fun e => h (e ▸ rfl))
    | xI q => cases t <;> first | rfl | exact get_L _
  | xI p ih => intro q t h; cases q with
    | xH => cases t <;> rfl
    | xI q => cases t with
      | L => exact (ih q .L (fun e => h (e ▸ rfl))).trans (get_L q)
      | N l v r => exact ih q r (fun e => h (e ▸ rfl))
    | xO q => cases t <;> first | rfl | exact get_L _
end tree

/-! eliminators -/
theorem oK_of {α : Type} {x : Option α} {k : α → Bool} (h : oK x k = true) : ∃ v, x = some v ∧ k v = true := by
  cases x with
  | none => cases h
  | some v => exact ⟨v, rfl, h⟩
theorem bK_of {x t f : Bool} (h : bK x t f = true) : (x = true ∧ t = true) ∨ (x = false ∧ f = true) := by
  cases x with
  | true => exact .inl ⟨rfl, h⟩
  | false => exact .inr ⟨rfl, h⟩
theorem wK_of {x t : Bool} (h : wK x t = true) : x = true ∧ t = true := by
  cases x with
  | true => exact ⟨rfl, h⟩
  | false => cases h
theorem fNat_eq (n : Nat) (k : Nat → Bool) : fNat n k = k n := by cases n <;> rfl
theorem fInt_eq (n : Int) (k : Int → Bool) : fInt n k = k n := by
  cases n with
  | ofNat m => exact fNat_eq m fun m' => k (.ofNat m')
  | negSucc m => exact fNat_eq m fun m' => k (.negSucc m')
theorem fB_eq (x : Bool) (k : AV → Bool) : fB x k = k (.b x) := by cases x <;> rfl
theorem notB_eq (x : Bool) : notB x = !x := by cases x <;> rfl
theorem ieq_eq (a b : Int) : ieq a b = (a == b) := by
  cases a with
  | ofNat m => cases b with
    | ofNat n =>
      show Nat.beq m n = _
      rw [Bool.eq_iff_iff, beq_iff_eq]; exact ⟨fun h => congrArg _ (Nat.eq_of_beq_eq_true h), fun h => by injection h with h; subst h; exact Nat.beq_refl m⟩
    | negSucc n => rfl
  | negSucc m => cases b with
    | ofNat n => rfl
    | negSucc n =>
      show Nat.beq m n = _
      rw [Bool.eq_iff_iff, beq_iff_eq]; exact ⟨fun h => congrArg _ (Nat.eq_of_beq_eq_true h), fun h => by injection h with h; subst h; exact Nat.beq_refl m⟩
theorem ile_eq (a b : Int) : ile a b = decide (a ≤ b) := by
  cases a with
  | ofNat m => cases b with
    | ofNat n =>
      show Nat.ble m n = _
      rw [Bool.eq_iff_iff, Nat.ble_eq, decide_eq_true_iff]; exact (Int.ofNat_le).symm
    | negSucc n =>
      show false = _
      have : ¬ (Int.ofNat m ≤ Int.negSucc n) := by simp only [Int.ofNat_eq_natCast]; omega
      rw [decide_eq_false this]
  | negSucc m => cases b with
    | ofNat n =>
      show true = _
      have : Int.negSucc m ≤ Int.ofNat n := by simp only [Int.ofNat_eq_natCast]; omega
      rw [decide_eq_true this]
    | negSucc n =>
      show Nat.ble n m = _
      rw [Bool.eq_iff_iff, Nat.ble_eq, decide_eq_true_iff]; omega
theorem nbeq_of {a b : Nat} (h : Nat.beq a b = true) : a = b := Nat.eq_of_beq_eq_true h
theorem nble_of {a b : Nat} (h : Nat.ble a b = true) : a ≤ b := Nat.le_of_ble_eq_true h
theorem leq_eq : ∀ (a b : List Nat), leq a b = (a == b) := by
  intro a
  induction a with
  | nil => intro b; cases b <;> rfl
  | cons x a ih =>
    intro b
    cases b with
    | nil => rfl
    | cons y b =>
      show wK (Nat.beq x y) (leq a b) = _
      rw [ih b]
      cases h : Nat.beq x y with
      | true => have := nbeq_of h; subst this; simp [wK]
      | false => have : x ≠ y := fun e => by subst e; simp at h
                 simp [wK, this]
theorem kindEq_of {a b : IntKind} (h : kindEq a b = true) : a = b := by cases a <;> cases b <;> first | rfl | cases h

/-! lists -/
section lists
variable {α : Type}
theorem nthK_of : ∀ {l : List α} {n : Nat} {k : α → Bool}, nthK l n k = true → ∃ v, l[n]? = some v ∧ k v = true := by
  intro l
  induction l with
  | nil => intro n k h; cases h
  | cons x l ih =>
    intro n k h
    cases n with
    | zero => exact ⟨x, rfl, h⟩
    | succ n => obtain ⟨v, hv, hk⟩ := ih h; exact ⟨v, by simpa using hv, hk⟩
theorem dropK_of : ∀ {l : List α} {n : Nat} {k : List α → Bool}, dropK l n k = true → n ≤ l.length ∧ k (l.drop n) = true := by
  intro l
  induction l with
  | nil => intro n k h; cases n with
    | zero => exact ⟨Nat.le_refl _, h⟩
    | succ n => cases h
  | cons x l ih => intro n k h; cases n with
    | zero => exact ⟨Nat.zero_le _, h⟩
    | succ n => obtain ⟨a, b⟩ := ih h; exact ⟨by simp; omega, by simpa using b⟩
theorem takeK_of : ∀ {l : List α} {n : Nat} {k : List α → Bool}, takeK l n k = true → n ≤ l.length ∧ k (l.take n) = true := by
  intro l
  induction l with
  | nil => intro n k h; cases n with
    | zero => exact ⟨Nat.le_refl _, h⟩
    | succ n => cases h
  | cons x l ih => intro n k h; cases n with
    | zero => exact ⟨Nat.zero_le _, h⟩
    | succ n => obtain ⟨a, b⟩ := ih (k := fun r => k (x :: r)) h; exact ⟨by simp; omega, by simpa using b⟩
theorem cutK_of {l : List α} {off n : Nat} {k : List α → Bool} (h : cutK l off n k = true) : off + n ≤ l.length ∧ k ((l.drop off).take n) = true := by
  obtain ⟨a, h1⟩ := dropK_of h
  obtain ⟨b, h2⟩ := takeK_of h1
  simp only [List.length_drop] at b
  exact ⟨by omega, h2⟩
theorem overK_of : ∀ {vs l : List α} {k : List α → Bool}, overK vs l k = true → vs.length ≤ l.length ∧ k (vs ++ l.drop vs.length) = true := by
  intro vs
  induction vs with
  | nil => intro l k h; exact ⟨Nat.zero_le _, h⟩
  | cons x vs ih => intro l k h; cases l with
    | nil => cases h
    | cons y l => obtain ⟨a, b⟩ := ih (k := fun r => k (x :: r)) h; exact ⟨by simp; omega, by simpa using b⟩
theorem layK_of : ∀ {l : List α} {n : Nat} {vs : List α} {k : List α → Bool}, layK l n vs k = true →
    n + vs.length ≤ l.length ∧ k (l.take n ++ (vs ++ l.drop (n + vs.length))) = true := by
  intro l
  induction l with
  | nil => intro n vs k h; cases n with
    | zero => obtain ⟨a, b⟩ := overK_of h; exact ⟨by simpa using a, by simpa using b⟩
    | succ n => cases h
  | cons x l ih => intro n vs k h; cases n with
    | zero => obtain ⟨a, b⟩ := overK_of h; exact ⟨by simpa using a, by simpa using b⟩
    | succ n =>
      obtain ⟨a, b⟩ := ih (k := fun r => k (x :: r)) h
      refine ⟨by simp; omega, ?_⟩
      rw [show n + 1 + vs.length = (n + vs.length) + 1 from by omega]
      simpa using b
theorem appK_of : ∀ {a b : List α} {k : List α → Bool}, appK a b k = true → k (a ++ b) = true := by
  intro a
  induction a with
  | nil => exact fun h => h
  | cons x a ih => intro b k h; exact ih (k := fun r => k (x :: r)) h
theorem lenN_eq : ∀ (l : List α), lenN l = l.length := by
  intro l
  induction l with
  | nil => rfl
  | cons x l ih => show Nat.succ (lenN l) = _; rw [ih]; rfl
end lists

/-! what a value is -/
theorem asI_of {v : AV} {c} (h : asI v c = true) : ∃ k n, v = .i k n ∧ c k n = true := by cases v <;> first | cases h | exact ⟨_, _, rfl, h⟩
theorem asB_of {v : AV} {c} (h : asB v c = true) : ∃ x, v = .b x ∧ c x = true := by cases v <;> first | cases h | exact ⟨_, rfl, h⟩
theorem asS_of {v : AV} {c} (h : asS v c = true) : ∃ l, v = .s l ∧ c l = true := by cases v <;> first | cases h | exact ⟨_, rfl, h⟩
theorem asP_of {v : AV} {c} (h : asP v c = true) : ∃ id off, v = .ptr id off ∧ c id off = true := by cases v <;> first | cases h | exact ⟨_, _, rfl, h⟩
theorem asSl_of {v : AV} {nil : Bool} {c} (h : asSl v nil c = true) : (v = .nilsl ∧ nil = true) ∨ ∃ id off len cap esz, v = .sl id off len cap esz ∧ c id off len cap esz = true := by
  cases v <;> first | exact .inl ⟨rfl, h⟩ | exact .inr ⟨_, _, _, _, _, rfl, h⟩ | cases h
theorem asMp_of {v : AV} {nil : Bool} {c} (h : asMp v nil c = true) : (v = .nilmp ∧ nil = true) ∨ ∃ id, v = .mp id ∧ c id = true := by
  cases v <;> first | exact .inl ⟨rfl, h⟩ | exact .inr ⟨_, rfl, h⟩ | cases h
theorem asFn_of {v : AV} {c} (h : asFn v c = true) : ∃ f x y, v = .fn f x y ∧ c f x y = true := by cases v <;> first | cases h | exact ⟨_, _, _, rfl, h⟩
theorem asIf_of {v : AV} {c} (h : asIf v c = true) : ∃ t x, v = .ifc t x ∧ c t x = true := by cases v <;> first | cases h | exact ⟨_, _, rfl, h⟩
theorem asA_of {v : AV} {c} (h : asA v c = true) : ∃ l, v = .agg l ∧ c l = true := by cases v <;> first | cases h | exact ⟨_, rfl, h⟩
theorem asT_of {v : AV} {c} (h : asT v c = true) : ∃ l, v = .tup l ∧ c l = true := by cases v <;> first | cases h | exact ⟨_, rfl, h⟩

/-- a value of one cell -/
def AV.flat : AV → Bool
  | .agg _ | .tup _ => false
  | _ => true

theorem cellsV_of {v : AV} {c} (h : cellsV v c = true) : (∃ l, v = .agg l ∧ c l = true) ∨ (v.flat = true ∧ c [v] = true) := by
  cases v <;> first | cases h | exact .inl ⟨_, rfl, h⟩ | exact .inr ⟨rfl, h⟩

theorem hd_of {vs : List AV} {k} (h : hd vs k = true) : ∃ x r, vs = x :: r ∧ k x r = true := by cases vs with
  | nil => cases h
  | cons x r => exact ⟨x, r, rfl, h⟩
theorem one_of {vs : List AV} {k} (h : one vs k = true) : ∃ x r, vs = x :: r ∧ k x = true := hd_of h
theorem duo_of {vs : List AV} {k} (h : duo vs k = true) : ∃ x y r, vs = x :: y :: r ∧ k x y = true := by
  obtain ⟨x, r, rfl, h1⟩ := hd_of h
  obtain ⟨y, r2, rfl, h2⟩ := hd_of h1
  exact ⟨x, y, r2, rfl, h2⟩

theorem partK_of {agg : Bool} {n : Nat} {cs : List AV} {off : Nat} {k} (h : partK agg n cs off k = true) :
    (agg = true ∧ off + n ≤ cs.length ∧ k (.agg ((cs.drop off).take n)) = true) ∨ (agg = false ∧ ∃ v, cs[off]? = some v ∧ k v = true) := by
  cases agg with
  | true => exact .inl ⟨rfl, cutK_of h⟩
  | false => exact .inr ⟨rfl, nthK_of h⟩

end Go.Am
