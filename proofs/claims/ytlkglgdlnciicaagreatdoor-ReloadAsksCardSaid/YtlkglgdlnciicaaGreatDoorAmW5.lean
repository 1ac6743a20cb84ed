/- The walk's rewrite rules. -/
import Derived.Test.YtlkglgdlnciicaaGreatDoorAmW3
set_option linter.all false
namespace Go.Am
open Go

section
variable {P : Program} {prim : FuncId → Option Prim} {nt : Nat}

/-- with a value, if there is one -/
def onV {α : Type} (x : Option α) (K : α → Prop) : Prop := match x with
  | some v => K v
  | none => False
theorem onV_some {α : Type} {v : α} {K : α → Prop} : onV (some v) K = K v := rfl
theorem onV_none {α : Type} {K : α → Prop} : onV none K = False := rfl
theorem onV_if {α : Type} {p : Prop} [Decidable p] {x : α} {K : α → Prop} : onV (if p then some x else none) K = (p ∧ K x) := by
  by_cases h : p
  · rw [if_pos h]; simp [onV, h]
  · rw [if_neg h]; simp [onV, h]

theorem lk_cons {s t : Nat} {v : AV} {l : Ev} : lk t ((s, v) :: l) = if s = t then some v else lk t l := rfl
theorem evO_tmp {t : Nat} {l : Ev} : evO (.tmp t) l = lk t l := rfl
theorem evO_const {c : Value} {l : Ev} : evO (.const c) l = ofV c := rfl
theorem evO_func {f : FuncId} {l : Ev} : evO (.func f) l = some (.fn (.func f) [] []) := rfl
theorem ofV_int {k : IntKind} {n : Int} : ofV (.int k n) = some (.i k n) := rfl
theorem ofV_bool {b : Bool} : ofV (.bool b) = some (.b b) := rfl
theorem ofV_string {s : ByteArray} : ofV (.string s) = some (.s (bytesOfBA s)) := rfl
theorem ofV_nilp : ofV (.pointer none) = some .nilp := rfl
theorem ofV_nilsl : ofV (.slice none 0 0) = some .nilsl := rfl
theorem ofV_nilmp : ofV (.map none) = some .nilmp := rfl
theorem ofV_nilfn : ofV .nilFunc = some .nilfn := rfl
theorem ofV_nilif : ofV .nilIface = some .nilif := rfl
theorem putE_some {t : Nat} {v : AV} {l : Ev} {K : Ev → Prop} : putE nt (some t) v l K = (t < nt ∧ K ((t, v) :: l)) := rfl
theorem putE_none {v : AV} {l : Ev} {K : Ev → Prop} : putE nt none v l K = K l := rfl

/-! code -/
section code
variable {Q : Ex → Ev → Hp → Pos → Prop} {l : Ev} {h : Hp} {n : Pos}
theorem wpC_skip : wpC P prim nt .skip Q l h n = Q .normal l h n := rfl
theorem wpC_region {id : Nat} {ops : Array Oper} : wpC P prim nt (.region id ops false) Q l h n = wpS P prim nt ops (Q .normal) ops.toList l h n := rfl
theorem wpC_draw {id : Nat} {ops : Array Oper} : wpC P prim nt (.region id ops true) Q l h n = wpDraw P prim nt ops (Q .normal) l h n := rfl
theorem wpC_seq {a b : Code} : wpC P prim nt (.seq a b) Q l h n = wpC P prim nt a (seqQ (wpC P prim nt b Q) Q) l h n := rfl
theorem wpC_cond {c : Operand} {a b : Code} : wpC P prim nt (.cond c a b) Q l h n = condW (evO c l) (wpC P prim nt a Q l h n) (wpC P prim nt b Q l h n) := rfl
theorem wpC_block {id : Nat} {b : Code} : wpC P prim nt (.block id b) Q l h n = wpC P prim nt b (blockQ id Q) l h n := rfl
/-- a loop, as it stands -/
def wpLoopC (P : Program) (prim : FuncId → Option Prim) (nt : Nat) (b : Code) (Q : Ex → Ev → Hp → Pos → Prop) (l : Ev) (h : Hp) (n : Pos) : Prop := wpLoop (wpC P prim nt b) Q l h n
theorem wpC_loop {b : Code} : wpC P prim nt (.loop b) Q l h n = wpLoopC P prim nt b Q l h n := rfl
theorem wpC_exit {id : Nat} : wpC P prim nt (.exit id) Q l h n = Q (.exit id) l h n := rfl
theorem wpC_ret : wpC P prim nt .ret Q l h n = Q .ret l h n := rfl
theorem seqQ_normal {K : Ev → Hp → Pos → Prop} : seqQ K Q .normal l h n = K l h n := rfl
theorem seqQ_exit {K : Ev → Hp → Pos → Prop} {j : Nat} : seqQ K Q (.exit j) l h n = Q (.exit j) l h n := rfl
theorem seqQ_ret {K : Ev → Hp → Pos → Prop} : seqQ K Q .ret l h n = Q .ret l h n := rfl
theorem blockQ_normal {id : Nat} : blockQ id Q .normal l h n = Q .normal l h n := rfl
theorem blockQ_exit {id j : Nat} : blockQ id Q (.exit j) l h n = if j = id then Q .normal l h n else Q (.exit j) l h n := rfl
theorem blockQ_ret {id : Nat} : blockQ id Q .ret l h n = Q .ret l h n := rfl
theorem condW_b {t : Bool} {A B : Prop} : condW (some (.b t)) A B = if t = true then A else B := rfl
theorem bodyQ_normal {rs : List ResultVar} {K : AV → Hp → Pos → Prop} : bodyQ P rs K .normal l h n = onV (resV P rs l h) fun vs => K (oneV vs) h n := by
  unfold bodyQ onV
  cases resV P rs l h <;> rfl
theorem bodyQ_ret {rs : List ResultVar} {K : AV → Hp → Pos → Prop} : bodyQ P rs K .ret l h n = onV (resV P rs l h) fun vs => K (oneV vs) h n := by
  unfold bodyQ onV
  cases resV P rs l h <;> rfl
theorem resV_nil : resV P [] l h = some [] := rfl
theorem resV_tmp {t : Nat} {r : List ResultVar} {v : AV} (hv : lk t l = some v) : resV P (.tmp t :: r) l h = (resV P r l h).map (v :: ·) := by
  simp only [resV, hv]
  cases resV P r l h <;> rfl
theorem resV_cell {c : Nat} {t : TypeId} {r : List ResultVar} {id : Pos} {off m : Nat} {a : Bool} (hv : lk c l = some (.ptr id off)) (ha : isAggT P t = some a) (hm : szT P t = some m) : resV P (.cell c t :: r) l h = (loadV a m h id off).bind fun v => (resV P r l h).map (v :: ·) := by
  simp only [resV, hv, ha, hm]
  cases loadV a m h id off with
  | none => rfl
  | some v => simp only [Option.bind_some]; cases resV P r l h <;> rfl
theorem oneV_one {x : AV} : oneV [x] = x := rfl
theorem oneV_nil : oneV [] = .tup [] := rfl
theorem oneV_two {x y : AV} {r : List AV} : oneV (x :: y :: r) = .tup (x :: y :: r) := rfl
end code

/-! steps -/
section steps
variable {ops : Array Oper} {K : Ev → Hp → Pos → Prop} {l : Ev} {h : Hp} {n : Pos} {d : Option Nat} {ty : TypeId} {pos : String} {aft : Array Edge}
theorem wpS_nil {Q : Ev → Hp → Pos → Prop} : wpS P prim nt ops Q [] l h n = Q l h n := rfl
theorem wpS_cons {Q : Ev → Hp → Pos → Prop} {o : Oper} {r : List Oper} : wpS P prim nt ops Q (o :: r) l h n = wpStep P prim nt ops o (wpS P prim nt ops Q r) l h n := rfl
theorem wpStep_none {op : Op} : wpStep P prim nt ops ⟨d, op, ty, pos, aft, none⟩ K l h n = wpO P prim nt ⟨d, op, ty, pos, aft, none⟩ K l h n := rfl
/-- a step that is wanted or not -/
def onG (v : Option AV) (want : Bool) (y m : Prop) : Prop := match v with
  | none => False
  | some v => if boolOf v = some want then y else m
theorem onG_b {x want : Bool} {y m : Prop} : onG (some (.b x)) want y m = if x = want then y else m := by simp [onG, boolOf]
theorem onG_undef {want : Bool} {y m : Prop} : onG (some undefA) want y m = m := by simp [onG, boolOf, undefA]
theorem wpStep_some {op : Op} {j t : Nat} {want : Bool} (hj : (ops[j]?).bind (·.dst) = some t) : wpStep P prim nt ops ⟨d, op, ty, pos, aft, some (j, want)⟩ K l h n =
    onG (lk t l) want (wpO P prim nt ⟨d, op, ty, pos, aft, some (j, want)⟩ K l h n) (putE nt d undefA l fun l' => K l' h n) := by
  unfold wpStep onG
  simp only [hj]
  cases lk t l <;> rfl

variable {g : Option (Nat × Bool)}
theorem wpO_un {op : Op} {x : Operand} {f : AV → Option AV} (hops : op.operands.toList = [x]) (hk : ∃ q, okC P op = .pure q) (hf : ∀ v, pureV P op [v] = f v) :
    wpO P prim nt ⟨d, op, ty, pos, aft, g⟩ K l h n = onV (evO x l) fun v => onV (f v) fun r => putE nt d r l fun l' => K l' h n := by
  obtain ⟨q, hq⟩ := hk
  unfold wpO onV
  simp only [hops, hq]
  cases hx : evO x l with
  | none => simp only [evOs, hx]
  | some v =>
    simp only [evOs, hx, hf]
    cases f v <;> rfl
theorem wpO_bi {op : Op} {x y : Operand} {f : AV → AV → Option AV} (hops : op.operands.toList = [x, y]) (hk : ∃ q, okC P op = .pure q) (hf : ∀ v w, pureV P op [v, w] = f v w) :
    wpO P prim nt ⟨d, op, ty, pos, aft, g⟩ K l h n = onV (evO x l) fun v => onV (evO y l) fun w => onV (f v w) fun r => putE nt d r l fun l' => K l' h n := by
  obtain ⟨q, hq⟩ := hk
  unfold wpO onV
  simp only [hops, hq]
  cases hx : evO x l with
  | none => simp only [evOs, hx]
  | some v =>
    cases hy : evO y l with
    | none => simp only [evOs, hx, hy]
    | some w =>
      simp only [evOs, hx, hy, hf]
      cases f v w <;> rfl
theorem wpO_tri {op : Op} {x y z : Operand} {f : AV → AV → AV → Option AV} (hops : op.operands.toList = [x, y, z]) (hk : ∃ q, okC P op = .pure q) (hf : ∀ v w u, pureV P op [v, w, u] = f v w u) :
    wpO P prim nt ⟨d, op, ty, pos, aft, g⟩ K l h n = onV (evO x l) fun v => onV (evO y l) fun w => onV (evO z l) fun u => onV (f v w u) fun r => putE nt d r l fun l' => K l' h n := by
  obtain ⟨q, hq⟩ := hk
  unfold wpO onV
  simp only [hops, hq]
  cases hx : evO x l with
  | none => simp only [evOs, hx]
  | some v =>
    cases hy : evO y l with
    | none => simp only [evOs, hx, hy]
    | some w =>
      cases hz : evO z l with
      | none => simp only [evOs, hx, hy, hz]
      | some u =>
        simp only [evOs, hx, hy, hz, hf]
        cases f v w u <;> rfl
theorem wpO_many {op : Op} {xs : List Operand} {f : List AV → Option AV} (hops : op.operands.toList = xs) (hk : ∃ q, okC P op = .pure q) (hf : ∀ vs, pureV P op vs = f vs) :
    wpO P prim nt ⟨d, op, ty, pos, aft, g⟩ K l h n = onV (evOs xs l) fun vs => onV (f vs) fun r => putE nt d r l fun l' => K l' h n := by
  obtain ⟨q, hq⟩ := hk
  unfold wpO onV
  simp only [hops, hq, hf]
  cases evOs xs l with
  | none => rfl
  | some vs => simp only; cases f vs <;> rfl

theorem evOs_nil : evOs [] l = some [] := rfl
theorem evOs_cons {x : Operand} {xs : List Operand} {v : AV} (hx : evO x l = some v) : evOs (x :: xs) l = (evOs xs l).map (v :: ·) := by
  simp only [evOs, hx]
  cases evOs xs l <;> rfl

theorem wpO_move {x : Operand} : wpO P prim nt ⟨d, .move x, ty, pos, aft, g⟩ K l h n = onV (evO x l) fun v => putE nt d v l fun l' => K l' h n := by
  rw [wpO_un (x := x) (f := some) (by simp [Op.operands]) ⟨_, rfl⟩ (fun v => rfl)]
  rfl
theorem wpO_assign {x : Operand} : wpO P prim nt ⟨d, .assign x, ty, pos, aft, g⟩ K l h n = onV (evO x l) fun v => putE nt d v l fun l' => K l' h n := by
  rw [wpO_un (x := x) (f := some) (by simp [Op.operands]) ⟨_, rfl⟩ (fun v => rfl)]
  rfl
def pickV (c a b : AV) : Option AV := match c with
  | .b t => some (if t = true then a else b)
  | _ => none
theorem pickV_b {t : Bool} {a b : AV} : pickV (.b t) a b = some (if t = true then a else b) := rfl
theorem wpO_pick {x y z : Operand} : wpO P prim nt ⟨d, .pick x y z, ty, pos, aft, g⟩ K l h n = onV (evO x l) fun c => onV (evO y l) fun a => onV (evO z l) fun b => onV (pickV c a b) fun r => putE nt d r l fun l' => K l' h n :=
  wpO_tri (f := pickV) (by simp [Op.operands]) ⟨_, rfl⟩ (fun v w u => by cases v <;> rfl)
theorem wpO_binOp {op : BinOp} {t u : TypeId} {x y : Operand} : wpO P prim nt ⟨d, .binOp op t x y u, ty, pos, aft, g⟩ K l h n = onV (evO x l) fun v => onV (evO y l) fun w => onV (binV P op t x y v w) fun r => putE nt d r l fun l' => K l' h n :=
  wpO_bi (f := binV P op t x y) (by simp [Op.operands]) ⟨_, rfl⟩ (fun v w => rfl)
def notV : AV → Option AV
  | .b a => some (.b !a)
  | _ => none
theorem notV_b {a : Bool} : notV (.b a) = some (.b !a) := rfl
theorem wpO_not {t : TypeId} {x : Operand} : wpO P prim nt ⟨d, .unOp .not t x, ty, pos, aft, g⟩ K l h n = onV (evO x l) fun v => onV (notV v) fun r => putE nt d r l fun l' => K l' h n :=
  wpO_un (f := notV) (by simp [Op.operands]) ⟨_, rfl⟩ (fun v => by cases v <;> rfl)
def negV : AV → Option AV
  | .i k a => some (.i k (k.wrap (0 - a)))
  | _ => none
theorem negV_i {k : IntKind} {a : Int} : negV (.i k a) = some (.i k (k.wrap (0 - a))) := rfl
theorem wpO_neg {t : TypeId} {x : Operand} : wpO P prim nt ⟨d, .unOp .neg t x, ty, pos, aft, g⟩ K l h n = onV (evO x l) fun v => onV (negV v) fun r => putE nt d r l fun l' => K l' h n :=
  wpO_un (f := negV) (by simp [Op.operands]) ⟨_, rfl⟩ (fun v => by cases v <;> rfl)
theorem wpO_nilCheck {x : Operand} : wpO P prim nt ⟨d, .nilCheck x, ty, pos, aft, g⟩ K l h n = onV (evO x l) fun v => onV (nilCheckV [v]) fun r => putE nt d r l fun l' => K l' h n :=
  wpO_un (f := fun v => nilCheckV [v]) (by simp [Op.operands]) ⟨_, rfl⟩ (fun v => rfl)
theorem nilCheckV_ptr {id : Pos} {off : Nat} : nilCheckV [.ptr id off] = some (.ptr id off) := rfl
theorem nilCheckV_ifc {t : TypeId} {v : AV} : nilCheckV [.ifc t v] = some (.ifc t v) := rfl
theorem nilCheckV_fn {f : FuncId} {a b : List AV} : nilCheckV [.fn (.func f) a b] = some (.fn (.func f) a b) := rfl
def fieldAddrV (o : Nat) : AV → Option AV
  | .ptr id off => some (.ptr id (off + o))
  | _ => none
theorem fieldAddrV_ptr {o off : Nat} {id : Pos} : fieldAddrV o (.ptr id off) = some (.ptr id (off + o)) := rfl
theorem wpO_fieldAddr {s : TypeId} {x : Operand} {f m o : Nat} {a : Bool} (hf : fieldOf P s f = some (a, m + 1, o)) : wpO P prim nt ⟨d, .fieldAddr s x f, ty, pos, aft, g⟩ K l h n = onV (evO x l) fun v => onV (fieldAddrV o v) fun r => putE nt d r l fun l' => K l' h n :=
  wpO_un (f := fieldAddrV o) (by simp [Op.operands]) ⟨_, rfl⟩ (fun v => by simp only [pureV, hf]; cases v <;> rfl)
def fieldV (a : Bool) (m o : Nat) : AV → Option AV
  | .agg cs => partV a m cs o
  | _ => none
theorem fieldV_agg {a : Bool} {m o : Nat} {cs : List AV} : fieldV a m o (.agg cs) = partV a m cs o := rfl
theorem wpO_field {s : TypeId} {x : Operand} {f m o : Nat} {a : Bool} (hf : fieldOf P s f = some (a, m, o)) : wpO P prim nt ⟨d, .field s x f, ty, pos, aft, g⟩ K l h n = onV (evO x l) fun v => onV (fieldV a m o v) fun r => putE nt d r l fun l' => K l' h n :=
  wpO_un (f := fieldV a m o) (by simp [Op.operands]) ⟨_, rfl⟩ (fun v => by simp only [pureV, hf]; cases v <;> rfl)
theorem wpO_indexAddr {t : TypeId} {x y : Operand} : wpO P prim nt ⟨d, .indexAddr t x y, ty, pos, aft, g⟩ K l h n = onV (evO x l) fun v => onV (evO y l) fun w => onV (indexAddrV P t [v, w]) fun r => putE nt d r l fun l' => K l' h n :=
  wpO_bi (f := fun v w => indexAddrV P t [v, w]) (by simp [Op.operands]) ⟨_, rfl⟩ (fun v w => rfl)
theorem indexAddrV_slice {t e : TypeId} {sz : Nat} (hu : P.underlying t = some (.slice e)) (hs : szT P e = some sz) {id : Pos} {off m : Nat} {cap : Option Nat} {k : IntKind} {j : Int} : indexAddrV P t [.sl id off m cap sz, .i k j] = if 0 ≤ j ∧ j < m then some (.ptr id (off + j.toNat * sz)) else none := by
  simp only [indexAddrV, hu, hs, idxV, if_true]
  by_cases hj : 0 ≤ j ∧ j < m
  · simp only [if_pos hj]
  · simp only [if_neg hj]
theorem indexAddrV_array {t e : TypeId} {sz m : Nat} (hu : P.underlying t = some (.array m e)) (hs : szT P e = some sz) {id : Pos} {off : Nat} {k : IntKind} {j : Int} : indexAddrV P t [.ptr id off, .i k j] = if 0 ≤ j ∧ j < m then some (.ptr id (off + j.toNat * sz)) else none := by
  simp only [indexAddrV, hu, hs, idxV]
  by_cases hj : 0 ≤ j ∧ j < m
  · simp only [if_pos hj]
  · simp only [if_neg hj]
theorem wpO_index {t : TypeId} {x y : Operand} : wpO P prim nt ⟨d, .index t x y, ty, pos, aft, g⟩ K l h n = onV (evO x l) fun v => onV (evO y l) fun w => onV (indexV P t [v, w]) fun r => putE nt d r l fun l' => K l' h n :=
  wpO_bi (f := fun v w => indexV P t [v, w]) (by simp [Op.operands]) ⟨_, rfl⟩ (fun v w => rfl)
theorem wpO_extract {x : Operand} {j : Nat} : wpO P prim nt ⟨d, .extract x j, ty, pos, aft, g⟩ K l h n = onV (evO x l) fun v => onV (pureV P (.extract x j) [v]) fun r => putE nt d r l fun l' => K l' h n :=
  wpO_un (f := fun v => pureV P (.extract x j) [v]) (by simp [Op.operands]) ⟨_, rfl⟩ (fun v => rfl)
theorem extractV {x : Operand} {j : Nat} {cs : List AV} : pureV P (.extract x j) [.tup cs] = cs[j]? := rfl
theorem wpO_convert {s t : TypeId} {x : Operand} {k k' : IntKind} (hs : P.underlying s = some (.int k')) (ht : P.underlying t = some (.int k)) : wpO P prim nt ⟨d, .convert s t x, ty, pos, aft, g⟩ K l h n = onV (evO x l) fun v => onV (pureV P (.convert s t x) [v]) fun r => putE nt d r l fun l' => K l' h n :=
  wpO_un (f := fun v => pureV P (.convert s t x) [v]) (by simp [Op.operands]) ⟨pureC P (.convert s t x), by simp only [okC, hs]⟩ (fun v => rfl)
theorem convertV {s t : TypeId} {x : Operand} {k k' j : IntKind} {a : Int} (hs : P.underlying s = some (.int k')) (ht : P.underlying t = some (.int k)) : pureV P (.convert s t x) [.i j a] = some (.i k (k.wrap a)) := by simp only [pureV, hs, ht]
theorem wpO_len {x : Operand} {t : TypeId} (hm : ∀ a b, P.underlying t ≠ some (.map a b)) : wpO P prim nt ⟨d, .call ⟨.builtin .len, #[x], #[t]⟩, ty, pos, aft, g⟩ K l h n = onV (evO x l) fun v => onV (lenV P #[t] [v]) fun r => putE nt d r l fun l' => K l' h n := by
  refine wpO_un (f := fun v => lenV P #[t] [v]) (by rw [exec_call_operands]) ⟨pureC P (.call ⟨.builtin .len, #[x], #[t]⟩), ?_⟩ (fun v => rfl)
  have ht : (#[t] : Array TypeId)[0]? = some t := rfl
  simp only [okC, ht]
theorem lenV_nilsl {t e : TypeId} (hu : P.underlying t = some (.slice e)) : lenV P #[t] [.nilsl] = some (.i .i64 0) := by
  have ht : (#[t] : Array TypeId)[0]? = some t := rfl
  simp only [lenV, ht, hu]
theorem lenV_sl {t e : TypeId} (hu : P.underlying t = some (.slice e)) {id : Pos} {off m sz : Nat} {cap : Option Nat} : lenV P #[t] [.sl id off m cap sz] = some (.i .i64 (m : Int)) := by
  have ht : (#[t] : Array TypeId)[0]? = some t := rfl
  simp only [lenV, ht, hu]
theorem lenV_s {t : TypeId} (hu : P.underlying t = some .string) {s : List Nat} : lenV P #[t] [.s s] = some (.i .i64 (s.length : Int)) := by
  have ht : (#[t] : Array TypeId)[0]? = some t := rfl
  simp only [lenV, ht, hu]

/-! binary operations -/
theorem binV_int {op : BinOp} {t : TypeId} {x y : Operand} {k0 k : IntKind} {a b : Int} (hu : P.underlying t = some (.int k0)) (h1 : op ≠ .shl) (h2 : op ≠ .shr) : binV P op t x y (.i k a) (.i k b) = intV op k a b := by
  unfold binV
  rw [hu]
  have : int2V op (.i k a) (.i k b) = intV op k a b := by simp [int2V, kindEq_refl]
  cases op <;> first | exact this | exact absurd rfl h1 | exact absurd rfl h2
theorem binV_str {op : BinOp} {t : TypeId} {x y : Operand} {a b : List Nat} (hu : P.underlying t = some .string) : binV P op t x y (.s a) (.s b) = strV op a b := by
  unfold binV
  rw [hu]
theorem binV_eql {t : TypeId} {x y : Operand} {a b : AV} {D : TypeDesc} {r : Bool} (hu : P.underlying t = some D) (h1 : ∀ k, D ≠ .int k) (h2 : D ≠ .string) (hg : guardB P t x y = true) (hr : eqV P 20 t a b = some r) : binV P .eql t x y a b = some (.b r) := by
  unfold binV
  rw [hu]
  have : oth2V P .eql t x y a b = some (.b r) := by simp only [oth2V, hg, hr]
  cases D <;> first | exact this | exact absurd rfl (h1 _) | exact absurd rfl h2
theorem binV_neq {t : TypeId} {x y : Operand} {a b : AV} {D : TypeDesc} {r : Bool} (hu : P.underlying t = some D) (h1 : ∀ k, D ≠ .int k) (h2 : D ≠ .string) (hg : guardB P t x y = true) (hr : eqV P 20 t a b = some r) : binV P .neq t x y a b = some (.b !r) := by
  unfold binV
  rw [hu]
  have : oth2V P .neq t x y a b = some (.b !r) := by simp only [oth2V, hg, hr]
  cases D <;> first | exact this | exact absurd rfl (h1 _) | exact absurd rfl h2

/-! reads, memory, what acts -/
/-- a load through a value -/
def ldV (a : Bool) (m : Nat) (h : Hp) (v : AV) : Option AV := match v with
  | .ptr id off => loadV a m h id off
  | _ => none
theorem ldV_ptr {a : Bool} {m : Nat} {id : Pos} {off : Nat} : ldV a m h (.ptr id off) = loadV a m h id off := rfl
/-- a store through a value -/
def stV (m : Nat) (h : Hp) (v w : AV) : Option Hp := match v with
  | .ptr id off => match cellsA w with
    | some xs => if xs.length = m then storeV h id off xs else none
    | none => none
  | _ => none
theorem wpO_load {t : TypeId} {x : Operand} {a : Bool} {m : Nat} (ha : isAggT P t = some a) (hm : szT P t = some m) : wpO P prim nt ⟨d, .load t x, ty, pos, aft, g⟩ K l h n = onV (evO x l) fun v => onV (ldV a m h v) fun r => putE nt d r l fun l' => K l' h n := by
  unfold wpO onV ldV
  have ho : (Op.load t x).operands.toList = [x] := by simp [Op.operands]
  simp only [ho, okC]
  cases hx : evO x l with
  | none => simp only [evOs, hx]
  | some v =>
    simp only [evOs, hx, readV, ha, hm]
    cases v <;> (try rfl)
    rename_i id off
    simp only
    cases loadV a m h id off <;> rfl
theorem wpO_alloc {e : TypeId} {z : List AV} (hz : zeroCellsT P e = some z) : wpO P prim nt ⟨d, .alloc e, ty, pos, aft, g⟩ K l h n = putE nt d (.ptr n 0) l fun l' => K l' (PT.set (some (.cells e z)) n h) n.nxt := by
  unfold wpO
  have ho : (Op.alloc e).operands.toList = [] := by simp [Op.operands]
  simp only [ho, evOs, okC, allocV, hz]
theorem wpO_box {e : TypeId} {x : Operand} : wpO P prim nt ⟨d, .box e x, ty, pos, aft, g⟩ K l h n = onV (evO x l) fun v => onV (cellsA v) fun xs => putE nt d (.ptr n 0) l fun l' => K l' (PT.set (some (.cells e xs)) n h) n.nxt := by
  unfold wpO onV
  have ho : (Op.box e x).operands.toList = [x] := by simp [Op.operands]
  simp only [ho, okC]
  cases hx : evO x l with
  | none => simp only [evOs, hx]
  | some v =>
    simp only [evOs, hx, allocV]
    cases cellsA v <;> rfl
theorem cellsA_agg {cs : List AV} : cellsA (.agg cs) = some cs := rfl
theorem wpO_buildSlice {t e : TypeId} {m sz : Nat} {ps : Array (Nat × Operand)} {zs : List AV} {xs : List Operand} {pl : List (Nat × Nat)} (he : elemT P t = some e) (hs : szT P e = some sz) (hz : zerosT P e m sz = some zs) (hm : m * sz ≤ 1000000) (hx : ps.toList.map (·.2) = xs) (hp : elemPlaces sz ps.toList = pl) :
    wpO P prim nt ⟨d, .buildSlice t m ps, ty, pos, aft, g⟩ K l h n = onV (evOs xs l) fun vs => onV (fillV pl zs vs) fun cs => putE nt d (.sl n 0 m (some m) sz) l fun l' => K l' (PT.set (some (.cells e cs)) n h) n.nxt := by
  unfold wpO onV
  have ho : (Op.buildSlice t m ps).operands.toList = xs := by rw [← hx]; simp [Op.operands]
  simp only [ho, okC]
  cases hv : evOs xs l with
  | none => rfl
  | some vs =>
    simp only [allocV, he, hs, hz, if_pos hm, hp]
    cases fillV pl zs vs <;> rfl
theorem wpO_build {t : TypeId} {ps : Array (Nat × Operand)} {z : List AV} {fs : Array Field} {xs : List Operand} {pl : List (Nat × Nat)} (hz : zeroCellsT P t = some z) (hu : P.underlying t = some (.struct fs)) (ha : fs.toList.all (fun f => (szT P f.type).isSome) = true) (hp : fieldPlaces P fs ps.toList = some pl) (hx : ps.toList.map (·.2) = xs) :
    wpO P prim nt ⟨d, .build t ps, ty, pos, aft, g⟩ K l h n = onV (evOs xs l) fun vs => onV (fillV pl z vs) fun cs => putE nt d (.agg cs) l fun l' => K l' h n := by
  unfold wpO onV
  have ho : (Op.build t ps).operands.toList = xs := by rw [← hx]; simp [Op.operands]
  simp only [ho, okC]
  cases hv : evOs xs l with
  | none => rfl
  | some vs =>
    simp only [pureV, buildV, hz, hu, ha, hp]
    cases fillV pl z vs <;> rfl
theorem fillV_nil {cells vs : List AV} : fillV [] cells vs = some cells := rfl
theorem fillV_cons {p : Nat × Nat} {ps : List (Nat × Nat)} {cells xs r : List AV} {v : AV} (hv : cellsA v = some xs) (hl : xs.length = p.2 ∧ p.1 + xs.length ≤ cells.length) : fillV (p :: ps) cells (v :: r) = fillV ps (cells.take p.1 ++ (xs ++ cells.drop (p.1 + xs.length))) r := by
  simp only [fillV, hv, if_pos hl]
theorem wpO_store {t : TypeId} {x y : Operand} {m : Nat} (hm : szT P t = some m) : wpO P prim nt ⟨d, .store t x y, ty, pos, aft, g⟩ K l h n = onV (evO x l) fun v => onV (evO y l) fun w => onV (stV m h v w) fun h' => putE nt d undefA l fun l' => K l' h' n := by
  unfold wpO onV stV
  have ho : (Op.store t x y).operands.toList = [x, y] := by simp [Op.operands]
  simp only [ho, okC]
  cases hx : evO x l with
  | none => simp only [evOs, hx]
  | some v =>
    cases hy : evO y l with
    | none => simp only [evOs, hx, hy]
    | some w =>
      simp only [evOs, hx, hy, loudW, hm]
      cases v <;> (try rfl)
      rename_i id off
      simp only
      cases cellsA w with
      | none => rfl
      | some xs =>
        simp only
        by_cases hl : xs.length = m
        · rw [if_pos hl]
          cases hs : storeV h id off xs with
          | none => simp [hl]
          | some h' => simp [hl]
        · rw [if_neg hl]
          simp [hl]
theorem wpO_call {f : FuncId} {args : Array Operand} {ts : Array TypeId} : wpO P prim nt ⟨d, .call ⟨.value (.func f), args, ts⟩, ty, pos, aft, g⟩ K l h n = onV (evOs args.toList l) fun vs => AC P prim f vs h n fun v h' n' => putE nt d v l fun l' => K l' h' n' := by
  unfold wpO onV
  have ho : (Op.call ⟨.value (.func f), args, ts⟩).operands.toList = .func f :: args.toList := by simp [Op.operands, Call.operands]
  simp only [ho, okC, evOs, evO]
  cases evOs args.toList l with
  | none => rfl
  | some vs =>
    simp only [loudW]
    simp
theorem wpO_callv {q : Operand} {args : Array Operand} {ts : Array TypeId} {f : FuncId} {first cap : List AV} (hq : evO q l = some (.fn (.func f) first cap)) : wpO P prim nt ⟨d, .call ⟨.value q, args, ts⟩, ty, pos, aft, g⟩ K l h n = onV (evOs args.toList l) fun vs => AC P prim f (first ++ vs ++ cap) h n fun v h' n' => putE nt d v l fun l' => K l' h' n' := by
  unfold wpO onV
  have ho : (Op.call ⟨.value q, args, ts⟩).operands.toList = q :: args.toList := by simp [Op.operands, Call.operands]
  simp only [ho, okC, evOs, hq]
  cases evOs args.toList l with
  | none => rfl
  | some vs => rfl
theorem wpO_append {ts : Array TypeId} {x y : Operand} {e : TypeId} {sz by_ : Nat} (ht : appT P ts = some (e, sz, by_)) : wpO P prim nt ⟨d, .call ⟨.builtin .append, #[x, y], ts⟩, ty, pos, aft, g⟩ K l h n = onV (evO x l) fun s => onV (evO y l) fun u => onV (srcV h sz u) fun q => onV (appendV e sz by_ s q.1 q.2 h n) fun r => putE nt d r.1 l fun l' => K l' r.2.1 r.2.2 := by
  unfold wpO onV
  have ho : (Op.call ⟨.builtin .append, #[x, y], ts⟩).operands.toList = [x, y] := by rw [exec_call_operands]
  simp only [ho, okC]
  cases hx : evO x l with
  | none => simp only [evOs, hx]
  | some s =>
    cases hy : evO y l with
    | none => simp only [evOs, hx, hy]
    | some u =>
      simp only [evOs, hx, hy, loudW, ht]
      cases srcV h sz u with
      | none => rfl
      | some q =>
        obtain ⟨m, xs⟩ := q
        simp only
        cases appendV e sz by_ s m xs h n with
        | none => rfl
        | some r => obtain ⟨a, b, c⟩ := r; rfl
end steps

end
end Go.Am
