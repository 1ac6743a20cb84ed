/- The abstract machine's operations, read forwards: all those that call nobody. -/
import Derived.Test.YtlkglgdlnciicaaGreatDoorAmV
set_option linter.all false
namespace Go.Am
open Go

section
variable {P : Program}

def buildV (P : Program) (t : TypeId) (ps : List (Nat × Operand)) (vs : List AV) : Option AV := match zeroCellsT P t with
  | some z => match P.underlying t with
    | some (.struct fs) => match fs.toList.all (fun f => (szT P f.type).isSome), fieldPlaces P fs ps with
      | true, some pl => match fillV pl z vs with
        | some cs => some (.agg cs)
        | none => none
      | _, _ => none
    | some (.array _ e) => match szT P e with
      | some n => match fillV (elemPlaces n ps) z vs with
        | some cs => some (.agg cs)
        | none => none
      | none => none
    | _ => none
  | none => none

def assertV (P : Program) (t : TypeId) (ok : Bool) (vs : List AV) : Option AV := match ok with
  | true => match zeroT P t, vs with
    | some z, .ifc u v :: _ => if u = t then some (.tup [v, .b true]) else some (.tup [z, .b false])
    | _, _ => none
  | false => match vs with
    | .ifc u v :: _ => if u = t then some v else none
    | _ => none

def indexAddrV (P : Program) (t : TypeId) (vs : List AV) : Option AV := match P.underlying t with
  | some (.array m e) => match szT P e, vs with
    | some sz, .ptr id off :: y :: _ => match idxV y m with
      | some j => some (.ptr id (off + j * sz))
      | none => none
    | _, _ => none
  | some (.slice e) => match szT P e, vs with
    | some sz, .sl id off m _ esz :: y :: _ => if sz = esz then (match idxV y m with
      | some j => some (.ptr id (off + j * sz))
      | none => none) else none
    | _, _ => none
  | _ => none

def indexV (P : Program) (t : TypeId) (vs : List AV) : Option AV := match P.underlying t with
  | some .string => match vs with
    | .s l :: .i _ n :: _ => if 0 ≤ n then (match l[n.toNat]? with
      | some r => some (.i .u8 (r : Int))
      | none => none) else none
    | _ => none
  | some (.array m e) => match isAggT P e, szT P e, vs with
    | some a, some sz, .agg cs :: y :: _ => match idxV y m with
      | some j => partV a sz cs (j * sz)
      | none => none
    | _, _, _ => none
  | _ => none

def lenV (P : Program) (ts : Array TypeId) (vs : List AV) : Option AV := match ts[0]? with
  | none => none
  | some t => match P.underlying t, vs with
    | some .string, .s l :: _ => some (.i .i64 (l.length : Int))
    | some (.slice _), .nilsl :: _ => some (.i .i64 0)
    | some (.slice _), .sl _ _ n _ _ :: _ => some (.i .i64 (n : Int))
    | some (.array n _), _ :: _ => some (.i .i64 (n : Int))
    | _, _ => none

def capV (P : Program) (ts : Array TypeId) (vs : List AV) : Option AV := match ts[0]? with
  | none => none
  | some t => match P.underlying t, vs with
    | some (.slice _), .nilsl :: _ => some (.i .i64 0)
    | some (.slice _), .sl _ _ _ (some n) _ :: _ => some (.i .i64 (n : Int))
    | _, _ => none

def nilCheckV (vs : List AV) : Option AV := match vs with
  | .ptr id off :: _ => some (.ptr id off)
  | .ifc t v :: _ => some (.ifc t v)
  | .fn (.func f) x y :: _ => some (.fn (.func f) x y)
  | _ => none

noncomputable def pureV (P : Program) (op : Op) (vs : List AV) : Option AV := match op with
  | .move _ | .assign _ => match vs with
    | x :: _ => some x
    | _ => none
  | .pick _ _ _ => match vs with
    | .b t :: a :: b :: _ => some (if t = true then a else b)
    | _ => none
  | .build t ps => buildV P t ps.toList vs
  | .nilCheck _ => nilCheckV vs
  | .binOp op t x y _ => match vs with
    | [a, b] => binV P op t x y a b
    | _ => none
  | .unOp .not _ _ => match vs with
    | .b a :: _ => some (.b !a)
    | _ => none
  | .unOp .neg _ _ => match vs with
    | .i k n :: _ => some (.i k (k.wrap (0 - n)))
    | _ => none
  | .convert s d _ => match P.underlying s, P.underlying d, vs with
    | some (.int _), some (.int k), .i _ n :: _ => some (.i k (k.wrap n))
    | some .string, some .string, .s l :: _ => some (.s l)
    | _, _, _ => none
  | .makeInterface t _ => match P.underlying t, vs with
    | some (.interface _), _ => none
    | some _, x :: _ => some (.ifc t x)
    | _, _ => none
  | .makeFunc fn first _ => if first.size ≤ vs.length then some (.fn fn (vs.take first.size) (vs.drop first.size)) else none
  | .slice t _ lo hi mx => sliceV P t lo.isSome hi.isSome mx.isSome vs
  | .fieldAddr s _ f => match fieldOf P s f, vs with
    | some (_, _ + 1, o), .ptr id off :: _ => some (.ptr id (off + o))
    | _, _ => none
  | .field s _ f => match fieldOf P s f, vs with
    | some (a, n, o), .agg cs :: _ => partV a n cs o
    | _, _ => none
  | .indexAddr t _ _ => indexAddrV P t vs
  | .index t _ _ => indexV P t vs
  | .typeAssert _ _ t ok => match P.underlying t with
    | some (.interface _) => none
    | some _ => assertV P t ok vs
    | none => none
  | .extract _ j => match vs with
    | .tup l :: _ => l[j]?
    | _ => none
  | .call ⟨.builtin .len, _, ts⟩ => lenV P ts vs
  | .call ⟨.builtin .cap, _, ts⟩ => capV P ts vs
  | .call ⟨.builtin .max, _, _⟩ => match vs with
    | [.i k a, .i _ b] => some (if b ≤ a then .i k a else .i k b)
    | _ => none
  | .call ⟨.builtin .min, _, _⟩ => match vs with
    | [.i k a, .i _ b] => some (if a ≤ b then .i k a else .i k b)
    | _ => none
  | .call ⟨.builtin .unsafeSliceData, args, _⟩ => match Nat.beq args.size 1, vs with
    | true, .nilsl :: _ => some .nilp
    | true, .sl id off n _ _ :: _ => if 1 ≤ n then some (.ptr id off) else none
    | _, _ => none
  | _ => none

theorem bK_dec {p : Prop} [Decidable p] {x t f : Bool} (hx : x = decide p) : bK x t f = if p then t else f := by
  subst hx
  by_cases h : p
  · rw [decide_eq_true h, if_pos h]; rfl
  · rw [decide_eq_false h, if_neg h]; rfl

theorem buildC_eq {t : TypeId} {ps : Array (Nat × Operand)} {vs : List AV} {v : AV} {c : AV → Bool} (h : buildV P t ps.toList vs = some v) : (pureC P (.build t ps)).run vs c = c v := by
  unfold buildV at h
  simp only [pureC]
  cases hz : zeroCellsT P t with
  | none => rw [hz] at h; cases h
  | some z =>
    rw [hz] at h
    simp only at h ⊢
    cases hu : P.underlying t with
    | none => rw [hu] at h; cases h
    | some D =>
      rw [hu] at h
      cases D <;> (try simp only at h) <;> try (cases h; done)
      case struct fs =>
        cases h1 : fs.toList.all (fun f => (szT P f.type).isSome) with
        | false => rw [h1] at h; cases h
        | true =>
          cases h2 : fieldPlaces P fs ps.toList with
          | none => rw [h1, h2] at h; cases h
          | some pl =>
            rw [h1, h2] at h
            simp only [h1, h2] at h ⊢
            cases h3 : fillV pl z vs with
            | none => rw [h3] at h; cases h
            | some cs =>
              rw [h3] at h
              injection h with h
              subst h
              exact fillK_eq h3
      case array m e =>
        cases h1 : szT P e with
        | none => rw [h1] at h; cases h
        | some n =>
          rw [h1] at h
          simp only [h1] at h ⊢
          cases h3 : fillV (elemPlaces n ps.toList) z vs with
          | none => rw [h3] at h; cases h
          | some cs =>
            rw [h3] at h
            injection h with h
            subst h
            exact fillK_eq h3

theorem assertC_eq {t : TypeId} {ok : Bool} {vs : List AV} {v : AV} {c : AV → Bool} (h : assertV P t ok vs = some v) : (assertC P t ok).run vs c = c v := by
  unfold assertV at h
  unfold assertC
  cases ok with
  | true =>
    simp only at h ⊢
    cases hz : zeroT P t with
    | none => rw [hz] at h; cases h
    | some z =>
      rw [hz] at h
      cases vs with
      | nil => cases h
      | cons x r =>
        cases x <;> (try simp only at h) <;> try (cases h; done)
        rename_i u y
        show bK (Nat.beq u t) (c (.tup [y, .b true])) (c (.tup [z, .b false])) = _
        split at h
        · rename_i hu
          injection h with h
          subst h
          rw [nbeq_true hu]
          rfl
        · rename_i hu
          injection h with h
          subst h
          have : Nat.beq u t = false := by
            cases hb : Nat.beq u t with
            | true => exact absurd (nbeq_of hb) hu
            | false => rfl
          rw [this]
          rfl
  | false =>
    simp only at h ⊢
    cases vs with
    | nil => cases h
    | cons x r =>
      cases x <;> (try simp only at h) <;> try (cases h; done)
      rename_i u y
      split at h
      · rename_i hu
        injection h with h
        subst h
        show wK (Nat.beq u t) (c y) = _
        rw [wK_true (nbeq_true hu)]
      · cases h

theorem indexAddrC_eq {t : TypeId} {x y : Operand} {vs : List AV} {v : AV} {c : AV → Bool} (h : indexAddrV P t vs = some v) : (pureC P (.indexAddr t x y)).run vs c = c v := by
  unfold indexAddrV at h
  simp only [pureC]
  cases hu : P.underlying t with
  | none => rw [hu] at h; cases h
  | some D =>
    rw [hu] at h
    cases D <;> (try simp only at h) <;> try (cases h; done)
    case array m e =>
      cases hs : szT P e with
      | none => rw [hs] at h; cases h
      | some sz =>
        rw [hs] at h
        simp only [hs] at h ⊢
        rcases vs with _ | ⟨a, _ | ⟨b, r⟩⟩
        · cases h
        · cases a <;> cases h
        cases a <;> (try simp only at h) <;> try (cases h; done)
        split at h
        · rename_i j hj
          injection h with h
          subst h
          show idxK b m (fun j => fNat (_ + j * sz) fun r => c (.ptr _ r)) = _
          rw [idxK_eq hj, fNat_eq]
        · cases h
    case slice e =>
      cases hs : szT P e with
      | none => rw [hs] at h; cases h
      | some sz =>
        rw [hs] at h
        simp only [hs] at h ⊢
        rcases vs with _ | ⟨a, _ | ⟨b, r⟩⟩
        · cases h
        · cases a <;> cases h
        cases a <;> (try simp only at h) <;> try (cases h; done)
        split at h
        · rename_i hse
          split at h
          · rename_i j hj
            injection h with h
            subst h
            show wK (Nat.beq sz _) (idxK b _ (fun j => fNat (_ + j * sz) fun r => c (.ptr _ r))) = _
            rw [wK_true (nbeq_true hse), idxK_eq hj, fNat_eq]
          · cases h
        · cases h

theorem indexC_eq {t : TypeId} {x y : Operand} {vs : List AV} {v : AV} {c : AV → Bool} (h : indexV P t vs = some v) : (pureC P (.index t x y)).run vs c = c v := by
  unfold indexV at h
  simp only [pureC]
  cases hu : P.underlying t with
  | none => rw [hu] at h; cases h
  | some D =>
    rw [hu] at h
    cases D <;> (try simp only at h) <;> try (cases h; done)
    case string =>
      rcases vs with _ | ⟨a, _ | ⟨b, r⟩⟩
      · cases h
      · cases a <;> cases h
      cases a <;> (try simp only at h) <;> try (cases h; done)
      cases b <;> (try simp only at h) <;> try (cases h; done)
      split at h
      · rename_i l k n hn
        obtain ⟨m, rfl⟩ := Int.eq_ofNat_of_zero_le hn
        cases hl : l[(m : Int).toNat]? with
        | none => rw [hl] at h; cases h
        | some r =>
          rw [hl] at h
          injection h with h
          subst h
          show nthK l m (fun r => fNat r fun r' => c (.i .u8 (.ofNat r'))) = _
          rw [nthK_eq (v := r) (by simpa using hl), fNat_eq]
          rfl
      · cases h
    case array m e =>
      cases ha : isAggT P e with
      | none => rw [ha] at h; cases h
      | some a =>
        cases hs : szT P e with
        | none => rw [ha, hs] at h; cases h
        | some sz =>
          rw [ha, hs] at h
          simp only [ha, hs] at h ⊢
          rcases vs with _ | ⟨x, _ | ⟨b, r⟩⟩
          · cases h
          · cases x <;> cases h
          cases x <;> (try simp only at h) <;> try (cases h; done)
          split at h
          · rename_i j hj
            show idxK b m (fun j => partK a sz _ (j * sz) c) = _
            rw [idxK_eq hj, partK_eq h]
          · cases h

theorem lenC_eq {args : Array Operand} {ts : Array TypeId} {vs : List AV} {v : AV} {c : AV → Bool} (h : lenV P ts vs = some v) : (pureC P (.call ⟨.builtin .len, args, ts⟩)).run vs c = c v := by
  unfold lenV at h
  simp only [pureC]
  cases ht : ts[0]? with
  | none => rw [ht] at h; cases h
  | some t =>
    rw [ht] at h
    simp only at h ⊢
    cases hu : P.underlying t with
    | none => rw [hu] at h; cases vs <;> cases h
    | some D =>
      rw [hu] at h
      cases vs with
      | nil => cases D <;> cases h
      | cons x r =>
        cases D <;> (try simp only at h) <;> try (cases h; done)
        case string =>
          cases x <;> (try simp only at h) <;> try (cases h; done)
          injection h with h
          subst h
          show fNat (lenN _) (fun n => c (.i .i64 (.ofNat n))) = _
          rw [fNat_eq, lenN_eq]
          rfl
        case slice e =>
          cases x <;> (try simp only at h) <;> try (cases h; done)
          · injection h with h; subst h; rfl
          · injection h with h; subst h; rfl
        case array n e =>
          injection h with h
          subst h
          rfl

theorem capC_eq {args : Array Operand} {ts : Array TypeId} {vs : List AV} {v : AV} {c : AV → Bool} (h : capV P ts vs = some v) : (pureC P (.call ⟨.builtin .cap, args, ts⟩)).run vs c = c v := by
  unfold capV at h
  simp only [pureC]
  cases ht : ts[0]? with
  | none => rw [ht] at h; cases h
  | some t =>
    rw [ht] at h
    simp only at h ⊢
    cases hu : P.underlying t with
    | none => rw [hu] at h; cases vs <;> cases h
    | some D =>
      rw [hu] at h
      cases vs with
      | nil => cases D <;> cases h
      | cons x r =>
        cases D <;> (try simp only at h) <;> try (cases h; done)
        case slice e =>
          cases x <;> (try simp only at h) <;> try (cases h; done)
          · injection h with h; subst h; rfl
          · rename_i cap _
            cases cap with
            | none => cases h
            | some n => injection h with h; subst h; rfl

theorem pureC_eq {op : Op} {vs : List AV} {v : AV} {c : AV → Bool} (h : pureV P op vs = some v) : (pureC P op).run vs c = c v := by
  cases op <;> simp only [pureV] at h <;> try (cases h; done)
  case move x => cases vs <;> first | (cases h; done) | (injection h with h; subst h; rfl)
  case assign x => cases vs <;> first | (cases h; done) | (injection h with h; subst h; rfl)
  case pick x a b =>
    rcases vs with _ | ⟨x, _ | ⟨y, _ | ⟨z, r⟩⟩⟩
    · cases h
    · cases x <;> cases h
    · cases x <;> cases h
    cases x <;> (try simp only at h) <;> try (cases h; done)
    injection h with h
    subst h
    rename_i t
    cases t <;> rfl
  case build t ps => exact buildC_eq h
  case nilCheck x =>
    unfold nilCheckV at h
    cases vs with
    | nil => cases h
    | cons x r =>
      cases x <;> (try simp only at h) <;> try (cases h; done)
      · injection h with h; subst h; rfl
      · rename_i f a b
        cases f <;> (try simp only at h) <;> try (cases h; done)
        injection h with h; subst h; rfl
      · injection h with h; subst h; rfl
  case binOp op t x y u =>
    rcases vs with _ | ⟨a, _ | ⟨b, _ | ⟨z, r⟩⟩⟩ <;> (try simp only at h) <;> try (cases h; done)
    exact binC_eq h
  case unOp op t x =>
    cases op <;> (try simp only at h) <;> try (cases h; done)
    all_goals
      cases vs with
      | nil => cases h
      | cons x r =>
        cases x <;> (try simp only at h) <;> try (cases h; done)
        injection h with h
        subst h
        first
          | exact wrapK_eq
          | (show fB (notB _) c = _; rw [fB_eq, notB_eq])
  case convert s d x =>
    simp only [pureC]
    cases hs : P.underlying s with
    | none => rw [hs] at h; cases h
    | some S =>
      cases hd : P.underlying d with
      | none => rw [hs, hd] at h; cases S <;> cases h
      | some D =>
        rw [hs, hd] at h
        cases S <;> (try simp only at h) <;> try (cases h; done)
        all_goals
          cases D <;> (try simp only at h) <;> try (cases h; done)
          cases vs with
          | nil => cases h
          | cons x r =>
            cases x <;> (try simp only at h) <;> try (cases h; done)
            injection h with h
            subst h
            first
              | exact wrapK_eq
              | rfl
  case makeInterface t x =>
    simp only [pureC]
    cases hu : P.underlying t with
    | none => rw [hu] at h; cases vs <;> cases h
    | some D =>
      rw [hu] at h
      cases vs with
      | nil => cases D <;> cases h
      | cons x r => cases D <;> (try simp only at h) <;> first | (cases h; done) | (injection h with h; subst h; rfl)
  case makeFunc fn first captured =>
    split at h
    · rename_i hl
      injection h with h
      subst h
      show takeK vs first.size (fun a => dropK vs first.size fun b => c (.fn fn a b)) = _
      rw [takeK_eq hl, dropK_eq hl]
    · cases h
  case slice t x lo hi mx => exact sliceC_eq h
  case fieldAddr s x f =>
    simp only [pureC]
    cases hf : fieldOf P s f with
    | none => rw [hf] at h; cases h
    | some q =>
      obtain ⟨a, n, o⟩ := q
      rw [hf] at h
      cases n with
      | zero => cases h
      | succ n =>
        cases vs with
        | nil => cases h
        | cons x r =>
          cases x <;> (try simp only at h) <;> try (cases h; done)
          injection h with h
          subst h
          rename_i id off
          show fNat (off + o) (fun r => c (.ptr id r)) = _
          rw [fNat_eq]
  case field s x f =>
    simp only [pureC]
    cases hf : fieldOf P s f with
    | none => rw [hf] at h; cases h
    | some q =>
      obtain ⟨a, n, o⟩ := q
      rw [hf] at h
      cases vs with
      | nil => cases h
      | cons x r =>
        cases x <;> (try simp only at h) <;> try (cases h; done)
        exact partK_eq h
  case indexAddr t x y => exact indexAddrC_eq h
  case index t x y => exact indexC_eq h
  case typeAssert x s t ok =>
    simp only [pureC]
    cases hu : P.underlying t with
    | none => rw [hu] at h; cases h
    | some D =>
      rw [hu] at h
      cases D <;> (try simp only at h) <;> first | (cases h; done) | exact assertC_eq h
  case extract x j =>
    cases vs with
    | nil => cases h
    | cons x r =>
      cases x <;> (try simp only at h) <;> try (cases h; done)
      exact nthK_eq h
  case call cl =>
    obtain ⟨callee, args, ts⟩ := cl
    cases callee with
    | builtin b =>
      cases b <;> (try simp only at h) <;> try (cases h; done)
      case len => exact lenC_eq h
      case cap => exact capC_eq h
      case max =>
        rcases vs with _ | ⟨x, _ | ⟨y, _ | ⟨z, r⟩⟩⟩ <;> try (first | (cases h; done) | (cases x <;> cases h; done) | (cases x <;> cases y <;> cases h; done))
        cases x <;> (try simp only at h) <;> try (cases h; done)
        cases y <;> (try simp only at h) <;> try (cases h; done)
        injection h with h
        subst h
        show bK (ile _ _) (c _) (c _) = _
        rw [bK_dec (ile_eq _ _)]
        split <;> rfl
      case min =>
        rcases vs with _ | ⟨x, _ | ⟨y, _ | ⟨z, r⟩⟩⟩ <;> try (first | (cases h; done) | (cases x <;> cases h; done) | (cases x <;> cases y <;> cases h; done))
        cases x <;> (try simp only at h) <;> try (cases h; done)
        cases y <;> (try simp only at h) <;> try (cases h; done)
        injection h with h
        subst h
        show bK (ile _ _) (c _) (c _) = _
        rw [bK_dec (ile_eq _ _)]
        split <;> rfl
      case unsafeSliceData =>
        simp only [pureC]
        cases hb : Nat.beq args.size 1 with
        | false => rw [hb] at h; cases vs <;> cases h
        | true =>
          rw [hb] at h
          cases vs with
          | nil => cases h
          | cons x r =>
            cases x <;> (try simp only at h) <;> try (cases h; done)
            · injection h with h; subst h; rfl
            · split at h
              · rename_i hn
                injection h with h
                subst h
                show wK (Nat.ble 1 _) (c _) = _
                rw [wK_true (nble_true hn)]
              · cases h
    | value f => cases h
    | invoke r m => cases h

end
end Go.Am
/- The abstract machine's operations over the heap, read forwards. -/
namespace Go.Am
open Go

section
variable {P : Program}

/-- cells to be read -/
def cellsOf (h : Hp) (id : Pos) : Option (TypeId × List AV) := match PT.get id h with
  | some (.cells e l) => some (e, l)
  | some (.ro e l) => some (e, l)
  | _ => none
theorem cellsK_eq {h : Hp} {id : Pos} {e : TypeId} {l : List AV} {k : TypeId → List AV → Bool} (hg : cellsOf h id = some (e, l)) : cellsK h id k = k e l := by
  unfold cellsOf at hg
  unfold cellsK
  cases hp : PT.get id h with
  | none => rw [hp] at hg; cases hg
  | some B =>
    rw [hp] at hg
    rw [getK_eq hp]
    cases B <;> simp only at hg <;> first | (cases hg; done) | (injection hg with hg; injection hg with h1 h2; subst h1 h2; rfl)

def loadV (agg : Bool) (n : Nat) (h : Hp) (id : Pos) (off : Nat) : Option AV := match cellsOf h id with
  | some (_, l) => partV agg n l off
  | none => none
theorem loadK_eq {agg : Bool} {n : Nat} {h : Hp} {id : Pos} {off : Nat} {v : AV} {k : AV → Bool} (hl : loadV agg n h id off = some v) : loadK agg n h id off k = k v := by
  unfold loadV at hl
  cases hc : cellsOf h id with
  | none => rw [hc] at hl; cases hl
  | some q =>
    obtain ⟨e, l⟩ := q
    rw [hc] at hl
    unfold loadK
    rw [cellsK_eq hc, partK_eq hl]

def findV (eq : AV → AV → Option Bool) (key : AV) : List (AV × AV) → Nat → Option (Option (Nat × AV))
  | [], _ => some none
  | x :: r, j => match eq key x.1 with
    | some true => some (some (j, x.2))
    | some false => findV eq key r (j + 1)
    | none => none
theorem findK_eq {eq : EqC} {ev : AV → AV → Option Bool} (he : ∀ x y r k, ev x y = some r → eq.run x y k = k r) {key : AV} : ∀ {es : List (AV × AV)} {j : Nat} {r : Option (Nat × AV)} {yes : Nat → AV → Bool} {no : Unit → Bool},
    findV ev key es j = some r → findK eq key es j yes no = match r with
      | some (i, v) => yes i v
      | none => no ()
  | [], j, r, yes, no, h => by simp only [findV] at h; injection h with h; subst h; rfl
  | x :: es, j, r, yes, no, h => by
    simp only [findV] at h
    show eq.run key x.1 (fun r => bK r (yes j x.2) (findK eq key es (j + 1) yes no)) = _
    cases hx : ev key x.1 with
    | none => rw [hx] at h; cases h
    | some b =>
      rw [hx] at h
      rw [he _ _ _ _ hx]
      cases b with
      | true => injection h with h; subst h; rfl
      | false => exact findK_eq he h

def mapOf (h : Hp) (id : Pos) : Option (List (AV × AV)) := match PT.get id h with
  | some (.mp es) => some es
  | _ => none
theorem mapK_eq {h : Hp} {id : Pos} {es : List (AV × AV)} {k : List (AV × AV) → Bool} (hg : mapOf h id = some es) : mapK h id k = k es := by
  unfold mapOf at hg
  unfold mapK
  cases hp : PT.get id h with
  | none => rw [hp] at hg; cases hg
  | some B =>
    rw [hp] at hg
    rw [getK_eq hp]
    cases B <;> simp only at hg <;> first | (cases hg; done) | (injection hg with h1; subst h1; rfl)

def natsV : List AV → Option (List Nat)
  | [] => some []
  | .i .u8 n :: r => if 0 ≤ n ∧ n ≤ 255 then (match natsV r with
    | some l => some (n.toNat :: l)
    | none => none) else none
  | _ => none
theorem natsK_eq : ∀ {l : List AV} {bs : List Nat} {k : List Nat → Bool}, natsV l = some bs → natsK l k = k bs
  | [], bs, k, h => by simp only [natsV] at h; injection h with h; subst h; rfl
  | v :: r, bs, k, h => by
    cases v with
    | i j n =>
      cases j <;> (try simp only [natsV] at h) <;> try (cases h; done)
      split at h
      · rename_i hn
        obtain ⟨m, rfl⟩ := Int.eq_ofNat_of_zero_le hn.1
        cases hr : natsV r with
        | none => rw [hr] at h; cases h
        | some l =>
          rw [hr] at h
          injection h with h
          subst h
          show wK (kindEq .u8 .u8) (wK (Nat.ble m 255) (fNat m fun m' => natsK r fun r => k (m' :: r))) = _
          rw [wK_true (kindEq_refl .u8), wK_true (nble_true (by omega)), fNat_eq, natsK_eq hr]
          rfl
      · cases h
    | _ => simp only [natsV] at h; cases h

def foundV (ok : Bool) (v : AV) (is : Bool) : AV := match ok with
  | true => .tup [v, .b is]
  | false => v

noncomputable def lookupV (P : Program) (t : TypeId) (ok : Bool) (vs : List AV) (h : Hp) : Option AV := match P.underlying t with
  | some (.map kt e) => match zeroT P e, vs with
    | some z, m :: key :: _ => if (keyC P 10 kt).run key = true then (match m with
      | .nilmp => some (foundV ok z false)
      | .mp id => match mapOf h id with
        | some es => match findV (eqV P 20 kt) key es 0 with
          | some (some (_, v)) => some (foundV ok v true)
          | some none => some (foundV ok z false)
          | none => none
        | none => none
      | _ => none) else none
    | _, _ => none
  | _ => none

noncomputable def readV (P : Program) (op : Op) (vs : List AV) (h : Hp) : Option AV := match op with
  | .load t _ => match isAggT P t, szT P t, vs with
    | some a, some n, .ptr id off :: _ => loadV a n h id off
    | _, _, _ => none
  | .lookup t _ _ ok => lookupV P t ok vs h
  | .call ⟨.builtin .len, _, ts⟩ => match ts[0]? with
    | none => none
    | some t => match P.underlying t, vs with
      | some (.map _ _), .nilmp :: _ => some (.i .i64 0)
      | some (.map _ _), .mp id :: _ => match mapOf h id with
        | some es => some (.i .i64 (es.length : Int))
        | none => none
      | _, _ => none
  | .convert s d _ => match P.underlying s, P.underlying d with
    | some (.slice e), some .string => match P.underlying e, vs with
      | some (.int .u8), .nilsl :: _ => some (.s [])
      | some (.int .u8), .sl id off n _ esz :: _ => if esz = 1 then (match n with
        | 0 => some (.s [])
        | n' + 1 => match cellsOf h id with
          | some (_, l) => if off + (n' + 1) ≤ l.length then (match natsV ((l.drop off).take (n' + 1)) with
            | some bs => some (.s bs)
            | none => none) else none
          | none => none) else none
      | _, _ => none
    | _, _ => none
  | _ => none

theorem lookupC_eq {t : TypeId} {x y : Operand} {ok : Bool} {vs : List AV} {h : Hp} {v : AV} {c : AV → Bool} (hv : lookupV P t ok vs h = some v) : (readC P (.lookup t x y ok)).run vs h c = c v := by
  unfold lookupV at hv
  simp only [readC]
  cases hu : P.underlying t with
  | none => rw [hu] at hv; cases hv
  | some D =>
    rw [hu] at hv
    cases D <;> (try simp only at hv) <;> try (cases hv; done)
    rename_i kt e
    cases hz : zeroT P e with
    | none => rw [hz] at hv; cases hv
    | some z =>
      rw [hz] at hv
      simp only [hz] at hv ⊢
      rcases vs with _ | ⟨m, _ | ⟨key, r⟩⟩
      · cases hv
      · cases hv
      simp only at hv
      split at hv
      · rename_i hk
        show wK ((keyC P 10 kt).run key) (asMp m (readC.found ok z false c) fun id => mapK h id fun es =>
          findK (eqC P 20 kt) key es 0 (fun _ v => readC.found ok v true c) fun _ => readC.found ok z false c) = _
        rw [wK_true hk]
        have fd : ∀ v is, readC.found ok v is c = c (foundV ok v is) := fun v is => by cases ok <;> rfl
        cases m <;> (try simp only at hv) <;> try (cases hv; done)
        · injection hv with hv
          subst hv
          exact fd z false
        · rename_i id
          show mapK h id (fun es => findK (eqC P 20 kt) key es 0 (fun _ v => readC.found ok v true c) fun _ => readC.found ok z false c) = _
          cases hm : mapOf h id with
          | none => rw [hm] at hv; cases hv
          | some es =>
            rw [hm] at hv
            rw [mapK_eq hm]
            cases hf : findV (eqV P 20 kt) key es 0 with
            | none => simp only [hf] at hv; cases hv
            | some q =>
              simp only [hf] at hv
              rw [findK_eq (eqC_eq P 20 kt) hf]
              cases q with
              | none => injection hv with hv; subst hv; exact fd z false
              | some q => obtain ⟨i, u⟩ := q; injection hv with hv; subst hv; exact fd u true
      · cases hv

theorem readC_eq {op : Op} {vs : List AV} {h : Hp} {v : AV} {c : AV → Bool} (hv : readV P op vs h = some v) : (readC P op).run vs h c = c v := by
  cases op <;> simp only [readV] at hv <;> try (cases hv; done)
  case load t x =>
    simp only [readC]
    cases ha : isAggT P t with
    | none => rw [ha] at hv; cases hv
    | some a =>
      cases hn : szT P t with
      | none => rw [ha, hn] at hv; cases hv
      | some n =>
        rw [ha, hn] at hv
        cases vs with
        | nil => cases hv
        | cons x r =>
          cases x <;> (try simp only at hv) <;> try (cases hv; done)
          exact loadK_eq hv
  case lookup t x y ok => exact lookupC_eq hv
  case convert s d x =>
    simp only [readC]
    cases hs : P.underlying s with
    | none => rw [hs] at hv; cases hv
    | some S =>
      cases hd : P.underlying d with
      | none => rw [hs, hd] at hv; cases S <;> cases hv
      | some D =>
        rw [hs, hd] at hv
        cases S <;> (try simp only at hv) <;> try (cases hv; done)
        cases D <;> (try simp only at hv) <;> try (cases hv; done)
        rename_i e
        cases he : P.underlying e with
        | none => rw [he] at hv; cases vs <;> cases hv
        | some E =>
          rw [he] at hv
          cases E <;> (try simp only at hv) <;> try (cases hv; done)
          rename_i ik
          cases ik <;> (try simp only at hv) <;> try (cases hv; done)
          simp only [he]
          cases vs with
          | nil => cases hv
          | cons x r =>
            cases x <;> (try simp only at hv) <;> try (cases hv; done)
            · injection hv with hv; subst hv; rfl
            · rename_i id off n cap esz
              split at hv
              · rename_i hse
                show wK (Nat.beq esz 1) (Nat.rec (motive := fun _ => Bool) (c (.s [])) (fun n' _ => cellsK h id fun _ l => cutK l off (Nat.succ n') fun r => natsK r fun bs => c (.s bs)) n) = _
                rw [wK_true (nbeq_true hse)]
                cases n with
                | zero => injection hv with hv; subst hv; rfl
                | succ n' =>
                  simp only at hv ⊢
                  cases hc : cellsOf h id with
                  | none => rw [hc] at hv; cases hv
                  | some q =>
                    obtain ⟨e', l⟩ := q
                    rw [hc] at hv
                    simp only at hv
                    split at hv
                    · rename_i hl
                      cases hn : natsV ((l.drop off).take (n' + 1)) with
                      | none => rw [hn] at hv; cases hv
                      | some bs =>
                        rw [hn] at hv
                        injection hv with hv
                        subst hv
                        rw [cellsK_eq hc, cutK_eq hl, natsK_eq hn]
                    · cases hv
              · cases hv
  case call cl =>
    obtain ⟨callee, args, ts⟩ := cl
    cases callee with
    | builtin b =>
      cases b <;> (try simp only at hv) <;> try (cases hv; done)
      simp only [readC]
      cases ht : ts[0]? with
      | none => rw [ht] at hv; cases hv
      | some t =>
        rw [ht] at hv
        simp only at hv ⊢
        cases hu : P.underlying t with
        | none => rw [hu] at hv; cases vs <;> cases hv
        | some D =>
          rw [hu] at hv
          cases D <;> (try simp only at hv) <;> try (cases hv; done)
          cases vs with
          | nil => cases hv
          | cons x r =>
            cases x <;> (try simp only at hv) <;> try (cases hv; done)
            · injection hv with hv; subst hv; rfl
            · rename_i id
              cases hm : mapOf h id with
              | none => rw [hm] at hv; cases hv
              | some es =>
                rw [hm] at hv
                injection hv with hv
                subst hv
                show mapK h id (fun es => fNat (lenN es) fun n => c (.i .i64 (.ofNat n))) = _
                rw [mapK_eq hm, fNat_eq, lenN_eq]
                rfl
    | value f => cases hv
    | invoke r m => cases hv

/-! making memory -/
noncomputable def allocV (P : Program) (op : Op) (vs : List AV) : Option (ABlk × (Pos → AV)) := match op with
  | .alloc e => match zeroCellsT P e with
    | some z => some (.cells e z, fun id => .ptr id 0)
    | none => none
  | .box e _ => match vs with
    | x :: _ => match cellsA x with
      | some xs => some (.cells e xs, fun id => .ptr id 0)
      | none => none
    | _ => none
  | .buildSlice t n ps => match elemT P t with
    | some e => match szT P e with
      | some sz => match zerosT P e n sz with
        | some zs => if n * sz ≤ 1000000 then (match fillV (elemPlaces sz ps.toList) zs vs with
          | some cs => some (.cells e cs, fun id => .sl id 0 n (some n) sz)
          | none => none) else none
        | none => none
      | none => none
    | none => none
  | .makeMap t r => match P.underlying t, r with
    | some (.map _ _), none => some (.mp [], fun id => .mp id)
    | _, _ => none
  | .makeSlice t _ _ => match elemT P t with
    | some e => match szT P e, bytesT P e, vs with
      | some sz, some by_, .i _ l :: .i _ m :: _ => if 0 ≤ l ∧ l ≤ m ∧ m.toNat * (by_ + sz + 1) ≤ 1000000 then (match zerosT P e m.toNat sz with
        | some zs => some (.cells e zs, fun id => .sl id 0 l.toNat (some m.toNat) sz)
        | none => none) else none
      | _, _, _ => none
    | none => none
  | _ => none

theorem allocC_eq {op : Op} {vs : List AV} {B : ABlk} {mk : Pos → AV} {c : ABlk → (Pos → AV) → Bool} (hv : allocV P op vs = some (B, mk)) : (allocC P op).run vs c = c B mk := by
  cases op <;> simp only [allocV] at hv <;> try (cases hv; done)
  case alloc e =>
    simp only [allocC]
    cases hz : zeroCellsT P e with
    | none => rw [hz] at hv; cases hv
    | some z => rw [hz] at hv; injection hv with hv; injection hv with h1 h2; subst h1 h2; rfl
  case box e x =>
    cases vs with
    | nil => cases hv
    | cons x r =>
      simp only at hv
      cases hx : cellsA x with
      | none => rw [hx] at hv; cases hv
      | some xs =>
        rw [hx] at hv; injection hv with hv; injection hv with h1 h2; subst h1 h2
        show cellsV x (fun xs => c (.cells e xs) fun id => .ptr id 0) = _
        rw [cellsV_eq hx]
  case buildSlice t n ps =>
    simp only [allocC]
    cases he : elemT P t with
    | none => rw [he] at hv; cases hv
    | some e =>
      rw [he] at hv
      simp only at hv ⊢
      cases hs : szT P e with
      | none => rw [hs] at hv; cases hv
      | some sz =>
        rw [hs] at hv
        simp only at hv ⊢
        cases hz : zerosT P e n sz with
        | none => rw [hz] at hv; cases hv
        | some zs =>
          rw [hz] at hv
          simp only at hv
          split at hv
          · rename_i hl
            cases hf : fillV (elemPlaces sz ps.toList) zs vs with
            | none => rw [hf] at hv; cases hv
            | some cs =>
              rw [hf] at hv
              injection hv with hv; injection hv with h1 h2; subst h1 h2
              rw [nble_true hl]
              exact fillK_eq hf
          · cases hv
  case makeMap t r =>
    simp only [allocC]
    cases hu : P.underlying t with
    | none => rw [hu] at hv; cases r <;> cases hv
    | some D =>
      rw [hu] at hv
      cases D <;> (try simp only at hv) <;> try (cases hv; done)
      cases r with
      | some r => cases hv
      | none => injection hv with hv; injection hv with h1 h2; subst h1 h2; rfl
  case makeSlice t x y =>
    simp only [allocC]
    cases he : elemT P t with
    | none => rw [he] at hv; cases hv
    | some e =>
      rw [he] at hv
      simp only at hv ⊢
      cases hs : szT P e with
      | none => rw [hs] at hv; cases hv
      | some sz =>
        cases hb : bytesT P e with
        | none => rw [hs, hb] at hv; cases hv
        | some by_ =>
          rw [hs, hb] at hv
          simp only at hv ⊢
          rcases vs with _ | ⟨a, _ | ⟨b, r⟩⟩
          · cases hv
          · cases a <;> cases hv
          cases a <;> (try simp only at hv) <;> try (cases hv; done)
          cases b <;> (try simp only at hv) <;> try (cases hv; done)
          split at hv
          · rename_i l k m hc
            obtain ⟨l', rfl⟩ := Int.eq_ofNat_of_zero_le hc.1
            obtain ⟨m', rfl⟩ := Int.eq_ofNat_of_zero_le (Int.le_trans hc.1 hc.2.1)
            cases hz : zerosT P e (m' : Int).toNat sz with
            | none => rw [hz] at hv; cases hv
            | some zs =>
              rw [hz] at hv
              injection hv with hv; injection hv with h1 h2; subst h1 h2
              show wK (Nat.ble l' m') (wK (Nat.ble (m' * (by_ + sz + 1)) 1000000) (oK (zerosT P e m' sz) fun zs => c (.cells e zs) fun id => .sl id 0 l' (some m') sz)) = _
              have hz' : zerosT P e m' sz = some zs := hz
              rw [wK_true (nble_true (by omega)), wK_true (nble_true (by simpa using hc.2.2)), hz', oK_some]
              rfl
          · cases hv

end
end Go.Am
