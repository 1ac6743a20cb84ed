/- The walk's rewrite rules (2): guards, regions that draw; rows of values in memory. -/
import Derived.Test.YtlkglgdlnciicaaGreatDoorAmW5
set_option linter.all false
namespace Go.Am
open Go

section
variable {P : Program} {prim : FuncId → Option Prim} {nt : Nat}

section
variable {ops : Array Oper} {K : Ev → Hp → Pos → Prop} {l : Ev} {h : Hp} {n : Pos} {d : Option Nat} {ty : TypeId} {pos : String} {aft : Array Edge} {g : Option (Nat × Bool)}
theorem wpStep_guard {op : Op} {j : Nat} {want : Bool} : wpStep P prim nt ops ⟨d, op, ty, pos, aft, some (j, want)⟩ K l h n =
    onG (((ops[j]?).bind (·.dst)).bind fun t => lk t l) want (wpO P prim nt ⟨d, op, ty, pos, aft, some (j, want)⟩ K l h n) (putE nt d undefA l fun l' => K l' h n) := by
  unfold wpStep onG
  simp only
  cases (ops[j]?).bind (·.dst) with
  | none => rfl
  | some t => simp only [Option.bind_some]; cases lk t l <;> rfl
theorem onG_tup {want : Bool} {y m : Prop} {c : List AV} : onG (some (.tup c)) want y m = m := by simp [onG, boolOf]
end

/-! regions that draw their order -/
section
variable {ops : Array Oper} {K : DK} {l : Ev} {h : Hp} {n r : Pos} {k : Nat} {ps : List Pend} {d : Option Nat} {ty : TypeId} {pos : String} {aft : Array Edge} {g : Option (Nat × Bool)} {hi : Nat}
theorem wpDs_nil : wpDs P prim nt ops K [] [] l h n r k ps = K l h n r k ps := rfl
theorem wpDs_cons {o : Oper} {os : List Oper} {his : List Nat} : wpDs P prim nt ops K (o :: os) (hi :: his) l h n r k ps = wpDStep P prim nt ops o hi (wpDs P prim nt ops K os his) l h n r k ps := rfl
theorem wpDStep_none {op : Op} : wpDStep P prim nt ops ⟨d, op, ty, pos, aft, none⟩ hi K l h n r k ps = wpDO P prim nt ⟨d, op, ty, pos, aft, none⟩ hi K l h n r k ps := rfl
theorem wpDStep_guard {op : Op} {j : Nat} {want : Bool} : wpDStep P prim nt ops ⟨d, op, ty, pos, aft, some (j, want)⟩ hi K l h n r k ps =
    onG (((ops[j]?).bind (·.dst)).bind fun t => lk t l) want (wpDO P prim nt ⟨d, op, ty, pos, aft, some (j, want)⟩ hi K l h n r k ps) (putE nt d undefA l fun l' => K l' h n r (match (okC P op).isLoud with
        | true => k + 1
        | false => k) ps) := by
  unfold wpDStep onG
  simp only
  cases (ops[j]?).bind (·.dst) with
  | none => rfl
  | some t => simp only [Option.bind_some]; cases lk t l <;> rfl

theorem wpDO_pure {o : Oper} {f : PureC} (hf : okC P o.op = .pure f) : wpDO P prim nt o hi K l h n r k ps = wpO P prim nt o (fun l' h' n' => K l' h' n' r k ps) l h n := by
  unfold wpDO wpO
  cases evOs o.op.operands.toList l with
  | none => rfl
  | some vs => simp only [hf]; rfl
theorem wpDO_read {o : Oper} {f : ReadC} (hf : okC P o.op = .read f) : wpDO P prim nt o hi K l h n r k ps = wpO P prim nt o (fun l' h' n' => K l' h' n' r k ps) l h n := by
  unfold wpDO wpO
  cases evOs o.op.operands.toList l with
  | none => rfl
  | some vs => simp only [hf]; rfl
theorem wpDO_loud {o : Oper} {f : LoudC} (hf : okC P o.op = .loud f) : wpDO P prim nt o hi K l h n r k ps = wpO P prim nt o (fun l' h' n' => K l' h' n' r (k + 1) (flushPs k ps)) l (flushH k ps h) n := by
  unfold wpDO wpO
  cases evOs o.op.operands.toList l with
  | none => rfl
  | some vs => simp only [hf]

theorem wpDO_move {x : Operand} : wpDO P prim nt ⟨d, .move x, ty, pos, aft, g⟩ hi K l h n r k ps = wpO P prim nt ⟨d, .move x, ty, pos, aft, g⟩ (fun l' h' n' => K l' h' n' r k ps) l h n := wpDO_pure rfl
theorem wpDO_assign {x : Operand} : wpDO P prim nt ⟨d, .assign x, ty, pos, aft, g⟩ hi K l h n r k ps = wpO P prim nt ⟨d, .assign x, ty, pos, aft, g⟩ (fun l' h' n' => K l' h' n' r k ps) l h n := wpDO_pure rfl
theorem wpDO_pick {x y z : Operand} : wpDO P prim nt ⟨d, .pick x y z, ty, pos, aft, g⟩ hi K l h n r k ps = wpO P prim nt ⟨d, .pick x y z, ty, pos, aft, g⟩ (fun l' h' n' => K l' h' n' r k ps) l h n := wpDO_pure rfl
theorem wpDO_build {t : TypeId} {q : Array (Nat × Operand)} : wpDO P prim nt ⟨d, .build t q, ty, pos, aft, g⟩ hi K l h n r k ps = wpO P prim nt ⟨d, .build t q, ty, pos, aft, g⟩ (fun l' h' n' => K l' h' n' r k ps) l h n := wpDO_pure rfl
theorem wpDO_nilCheck {x : Operand} : wpDO P prim nt ⟨d, .nilCheck x, ty, pos, aft, g⟩ hi K l h n r k ps = wpO P prim nt ⟨d, .nilCheck x, ty, pos, aft, g⟩ (fun l' h' n' => K l' h' n' r k ps) l h n := wpDO_pure rfl
theorem wpDO_binOp {op : BinOp} {t u : TypeId} {x y : Operand} : wpDO P prim nt ⟨d, .binOp op t x y u, ty, pos, aft, g⟩ hi K l h n r k ps = wpO P prim nt ⟨d, .binOp op t x y u, ty, pos, aft, g⟩ (fun l' h' n' => K l' h' n' r k ps) l h n := wpDO_pure rfl
theorem wpDO_unOp {op : UnOp} {t : TypeId} {x : Operand} : wpDO P prim nt ⟨d, .unOp op t x, ty, pos, aft, g⟩ hi K l h n r k ps = wpO P prim nt ⟨d, .unOp op t x, ty, pos, aft, g⟩ (fun l' h' n' => K l' h' n' r k ps) l h n := wpDO_pure rfl
theorem wpDO_fieldAddr {s : TypeId} {x : Operand} {f : Nat} : wpDO P prim nt ⟨d, .fieldAddr s x f, ty, pos, aft, g⟩ hi K l h n r k ps = wpO P prim nt ⟨d, .fieldAddr s x f, ty, pos, aft, g⟩ (fun l' h' n' => K l' h' n' r k ps) l h n := wpDO_pure rfl
theorem wpDO_field {s : TypeId} {x : Operand} {f : Nat} : wpDO P prim nt ⟨d, .field s x f, ty, pos, aft, g⟩ hi K l h n r k ps = wpO P prim nt ⟨d, .field s x f, ty, pos, aft, g⟩ (fun l' h' n' => K l' h' n' r k ps) l h n := wpDO_pure rfl
theorem wpDO_indexAddr {t : TypeId} {x y : Operand} : wpDO P prim nt ⟨d, .indexAddr t x y, ty, pos, aft, g⟩ hi K l h n r k ps = wpO P prim nt ⟨d, .indexAddr t x y, ty, pos, aft, g⟩ (fun l' h' n' => K l' h' n' r k ps) l h n := wpDO_pure rfl
theorem wpDO_index {t : TypeId} {x y : Operand} : wpDO P prim nt ⟨d, .index t x y, ty, pos, aft, g⟩ hi K l h n r k ps = wpO P prim nt ⟨d, .index t x y, ty, pos, aft, g⟩ (fun l' h' n' => K l' h' n' r k ps) l h n := wpDO_pure rfl
theorem wpDO_extract {x : Operand} {j : Nat} : wpDO P prim nt ⟨d, .extract x j, ty, pos, aft, g⟩ hi K l h n r k ps = wpO P prim nt ⟨d, .extract x j, ty, pos, aft, g⟩ (fun l' h' n' => K l' h' n' r k ps) l h n := wpDO_pure rfl
theorem wpDO_convert {s t : TypeId} {x : Operand} {k' : IntKind} (hs : P.underlying s = some (.int k')) : wpDO P prim nt ⟨d, .convert s t x, ty, pos, aft, g⟩ hi K l h n r k ps = wpO P prim nt ⟨d, .convert s t x, ty, pos, aft, g⟩ (fun l' h' n' => K l' h' n' r k ps) l h n := wpDO_pure (f := pureC P (.convert s t x)) (by simp only [okC, hs])
theorem wpDO_len {x : Operand} {t : TypeId} (hm : ∀ a b, P.underlying t ≠ some (.map a b)) : wpDO P prim nt ⟨d, .call ⟨.builtin .len, #[x], #[t]⟩, ty, pos, aft, g⟩ hi K l h n r k ps = wpO P prim nt ⟨d, .call ⟨.builtin .len, #[x], #[t]⟩, ty, pos, aft, g⟩ (fun l' h' n' => K l' h' n' r k ps) l h n :=
  wpDO_pure (f := pureC P (.call ⟨.builtin .len, #[x], #[t]⟩)) (by
    have ht : (#[t] : Array TypeId)[0]? = some t := rfl
    simp only [okC, ht])
theorem wpDO_load {t : TypeId} {x : Operand} : wpDO P prim nt ⟨d, .load t x, ty, pos, aft, g⟩ hi K l h n r k ps = wpO P prim nt ⟨d, .load t x, ty, pos, aft, g⟩ (fun l' h' n' => K l' h' n' r k ps) l h n := wpDO_read rfl
theorem wpDO_store {t : TypeId} {x y : Operand} : wpDO P prim nt ⟨d, .store t x y, ty, pos, aft, g⟩ hi K l h n r k ps = wpO P prim nt ⟨d, .store t x y, ty, pos, aft, g⟩ (fun l' h' n' => K l' h' n' r (k + 1) (flushPs k ps)) l (flushH k ps h) n := wpDO_loud rfl
theorem wpDO_call {q : Operand} {args : Array Operand} {ts : Array TypeId} : wpDO P prim nt ⟨d, .call ⟨.value q, args, ts⟩, ty, pos, aft, g⟩ hi K l h n r k ps = wpO P prim nt ⟨d, .call ⟨.value q, args, ts⟩, ty, pos, aft, g⟩ (fun l' h' n' => K l' h' n' r (k + 1) (flushPs k ps)) l (flushH k ps h) n := wpDO_loud rfl
theorem wpDO_append {args : Array Operand} {ts : Array TypeId} : wpDO P prim nt ⟨d, .call ⟨.builtin .append, args, ts⟩, ty, pos, aft, g⟩ hi K l h n r k ps = wpO P prim nt ⟨d, .call ⟨.builtin .append, args, ts⟩, ty, pos, aft, g⟩ (fun l' h' n' => K l' h' n' r (k + 1) (flushPs k ps)) l (flushH k ps h) n := wpDO_loud rfl
theorem wpDO_buildSlice {t e : TypeId} {m sz : Nat} {q : Array (Nat × Operand)} {zs : List AV} {xs : List Operand} {pl : List (Nat × Nat)} (he : elemT P t = some e) (hs : szT P e = some sz) (hz : zerosT P e m sz = some zs) (hm : m * sz ≤ 1000000) (hx : q.toList.map (·.2) = xs) (hp : elemPlaces sz q.toList = pl) :
    wpDO P prim nt ⟨d, .buildSlice t m q, ty, pos, aft, g⟩ hi K l h n r k ps = onV (evOs xs l) fun vs => onV (fillV pl zs vs) fun cs => putE nt d (.sl r 0 m (some m) sz) l fun l' => K l' h n r.nxt k (⟨r, .cells e cs, hi⟩ :: ps) := by
  unfold wpDO onV
  have ho : (Op.buildSlice t m q).operands.toList = xs := by rw [← hx]; simp [Op.operands]
  simp only [ho, okC]
  cases hv : evOs xs l with
  | none => rfl
  | some vs =>
    simp only [allocV, he, hs, hz, if_pos hm, hp]
    cases fillV pl zs vs <;> rfl
theorem wpDO_alloc {e : TypeId} {z : List AV} (hz : zeroCellsT P e = some z) : wpDO P prim nt ⟨d, .alloc e, ty, pos, aft, g⟩ hi K l h n r k ps = putE nt d (.ptr r 0) l fun l' => K l' h n r.nxt k (⟨r, .cells e z, hi⟩ :: ps) := by
  unfold wpDO
  have ho : (Op.alloc e).operands.toList = [] := by simp [Op.operands]
  simp only [ho, evOs, okC, allocV, hz]
theorem drawEnd_eq {Q : Ev → Hp → Pos → Prop} : drawEnd Q l h n r k ps = (flushPs k ps = [] ∧ Q l (flushH k ps h) n) := rfl
theorem flushPs_nil : flushPs k [] = [] := rfl
theorem flushH_nil : flushH k [] h = h := rfl
theorem flushPs_cons {p : Pend} : flushPs k (p :: ps) = if p.hi ≤ k then flushPs k ps else p :: flushPs k ps := by
  unfold flushPs
  rw [List.filter_cons]
  by_cases hp : p.hi ≤ k
  · rw [if_pos hp, nble_true hp]; rfl
  · have : Nat.ble p.hi k = false := by
      cases hb : Nat.ble p.hi k with
      | true => exact absurd (nble_of hb) hp
      | false => rfl
    rw [if_neg hp, this]; rfl
theorem flushH_cons {p : Pend} : flushH k (p :: ps) h = if p.hi ≤ k then PT.set (some p.blk) p.id (flushH k ps h) else flushH k ps h := by
  simp only [flushH, List.foldr_cons, Nat.ble_eq]
end

/-! what calls leave as it was -/
def Ext (h : Hp) (n : Pos) (h' : Hp) (n' : Pos) : Prop := n.num ≤ n'.num ∧ ∀ id : Pos, id.num < n.num → PT.get id h' = PT.get id h
theorem Ext.refl (h : Hp) (n : Pos) : Ext h n h n := ⟨Nat.le_refl _, fun _ _ => rfl⟩
theorem Ext.trans {h h1 h2 : Hp} {n n1 n2 : Pos} (a : Ext h n h1 n1) (b : Ext h1 n1 h2 n2) : Ext h n h2 n2 := ⟨Nat.le_trans a.1 b.1, fun id hi => (b.2 id (Nat.lt_of_lt_of_le hi a.1)).trans (a.2 id hi)⟩
theorem Ext.add {h : Hp} {n : Pos} (B : Option ABlk) : Ext h n (PT.set B n h) n.nxt := ⟨by rw [Pos.num_nxt]; omega, fun id hi => get_set_ne _ _ _ _ (fun e => by subst e; omega)⟩
/-- something made since then is turned -/
theorem Ext.turn {h h1 : Hp} {n n1 : Pos} (a : Ext h n h1 n1) {id : Pos} (hi : n.num ≤ id.num) (B : Option ABlk) : Ext h n (PT.set B id h1) n1 := ⟨a.1, fun i hlt => by rw [get_set_ne _ _ _ _ (fun e => by subst e; omega)]; exact a.2 i hlt⟩
theorem Ext.cells {h h' : Hp} {n n' : Pos} (a : Ext h n h' n') {id : Pos} (hi : id.num < n.num) {q} (hc : cellsOf h id = some q) : cellsOf h' id = some q := by
  unfold cellsOf at *
  rw [a.2 id hi]
  exact hc

/-! rows of values -/
/-- the value of a slice: so many chunks of cells -/
def SlAt (h : Hp) (n : Pos) (sz : Nat) (v : AV) (css : List (List AV)) : Prop :=
  (css = [] ∧ v = .nilsl) ∨ ∃ id cap e rest, v = .sl id 0 css.length cap sz ∧ id.num < n.num ∧ cellsOf h id = some (e, css.flatten ++ rest) ∧ ∀ c ∈ css, c.length = sz
theorem SlAt.ext {h h' : Hp} {n n' : Pos} (a : Ext h n h' n') {sz : Nat} {v : AV} {css : List (List AV)} (hs : SlAt h n sz v css) : SlAt h' n' sz v css := by
  rcases hs with hs | ⟨id, cap, e, rest, h1, h2, h3, h4⟩
  · exact .inl hs
  · exact .inr ⟨id, cap, e, rest, h1, Nat.lt_of_lt_of_le h2 a.1, a.cells h2 h3, h4⟩

theorem chunk_get : ∀ {css : List (List AV)} {sz j : Nat} {rest : List AV}, (∀ c ∈ css, c.length = sz) → ∀ (hj : j < css.length), ((css.flatten ++ rest).drop (j * sz)).take sz = css[j] ∧ j * sz + sz ≤ (css.flatten ++ rest).length
  | [], _, _, _, _, hj => by simp at hj
  | c :: css, sz, 0, rest, hc, hj => by
    have h1 := hc c (by simp)
    simp only [Nat.zero_mul, List.drop_zero, List.flatten_cons, List.append_assoc, List.getElem_cons_zero, Nat.zero_add]
    exact ⟨by rw [List.take_append_of_le_length (by omega), List.take_of_length_le (by omega)], by simp; omega⟩
  | c :: css, sz, j + 1, rest, hc, hj => by
    have h1 := hc c (by simp)
    obtain ⟨a, b⟩ := chunk_get (css := css) (j := j) (rest := rest) (fun c hcc => hc c (by simp [hcc])) (by simpa using hj)
    simp only [List.flatten_cons, List.append_assoc, List.getElem_cons_succ]
    refine ⟨?_, ?_⟩
    · rw [show (j + 1) * sz = c.length + j * sz from by rw [h1, Nat.add_mul]; omega, ← List.drop_drop, List.drop_left]
      exact a
    · rw [List.length_append, h1, Nat.add_mul]
      omega

theorem partV_chunk {css : List (List AV)} {sz j : Nat} {rest : List AV} (hc : ∀ c ∈ css, c.length = sz) (hj : j < css.length) : partV true sz (css.flatten ++ rest) (j * sz) = some (.agg css[j]) := by
  obtain ⟨a, b⟩ := chunk_get (rest := rest) hc hj
  simp only [partV, if_pos b, a]
theorem partV_one {css : List (List AV)} {j : Nat} {rest : List AV} {x : AV} (hc : ∀ c ∈ css, c.length = 1) (hj : j < css.length) (hx : css[j] = [x]) : partV false 1 (css.flatten ++ rest) (j * 1) = some x := by
  obtain ⟨a, b⟩ := chunk_get (rest := rest) hc hj
  rw [hx] at a
  simp only [partV]
  have : ((css.flatten ++ rest).drop (j * 1)).take 1 = [x] := a
  have h0 := congrArg (fun l => l[0]?) this
  rw [List.getElem?_take, if_pos (by omega), List.getElem?_drop] at h0
  simpa using h0

theorem wrap_nat {j : Nat} (hj : j < 9223372036854775807) : IntKind.wrap .i64 ((j : Int) + 1) = ((j + 1 : Nat) : Int) := by
  rw [wrap_in .i64 _ (by simp [lowOf]; omega) (by simp [topOf]; omega)]
  omega


/-! heaps by what was done to them -/
theorem set_set {α : Type} (x y : Option α) : ∀ (p : Pos) (t : PT α), PT.set x p (PT.set y p t) = PT.set x p t := by
  intro p
  induction p with
  | xH => intro t; cases t <;> rfl
  | xO p ih => intro t; cases t with
    | L => show PT.N (PT.set x p (PT.set y p .L)) none .L = PT.N (PT.set x p .L) none .L; rw [ih]
    | N l v r => show PT.N (PT.set x p (PT.set y p l)) v r = PT.N (PT.set x p l) v r; rw [ih]
  | xI p ih => intro t; cases t with
    | L => show PT.N .L none (PT.set x p (PT.set y p .L)) = PT.N .L none (PT.set x p .L); rw [ih]
    | N l v r => show PT.N l v (PT.set x p (PT.set y p r)) = PT.N l v (PT.set x p r); rw [ih]
theorem cellsOf_same {e : TypeId} {l : List AV} {id : Pos} {h : Hp} : cellsOf (PT.set (some (.cells e l)) id h) id = some (e, l) := by
  unfold cellsOf; rw [get_set_same]
theorem cellsOf_other {B : Option ABlk} {m id : Pos} {h : Hp} (hne : m ≠ id) : cellsOf (PT.set B m h) id = cellsOf h id := by
  unfold cellsOf; rw [get_set_ne _ _ _ _ hne]
theorem loadV_same {a : Bool} {k off : Nat} {e : TypeId} {l : List AV} {id : Pos} {h : Hp} : loadV a k (PT.set (some (.cells e l)) id h) id off = partV a k l off := by
  unfold loadV; rw [cellsOf_same]
theorem loadV_other {a : Bool} {k off : Nat} {B : Option ABlk} {m id : Pos} {h : Hp} (hne : m ≠ id) : loadV a k (PT.set B m h) id off = loadV a k h id off := by
  unfold loadV; rw [cellsOf_other hne]
theorem loadV_of {a : Bool} {k off : Nat} {e : TypeId} {l : List AV} {id : Pos} {h : Hp} (hc : cellsOf h id = some (e, l)) : loadV a k h id off = partV a k l off := by
  unfold loadV; rw [hc]
theorem storeV_same {e : TypeId} {l xs : List AV} {id : Pos} {off : Nat} {h : Hp} : storeV (PT.set (some (.cells e l)) id h) id off xs = if off + xs.length ≤ l.length then some (PT.set (some (.cells e (l.take off ++ (xs ++ l.drop (off + xs.length))))) id h) else none := by
  unfold storeV cellsWOf
  rw [get_set_same]
  simp only [set_set]
theorem storeV_other {B : Option ABlk} {m id : Pos} {off : Nat} {xs : List AV} {h h' : Hp} (hne : m ≠ id) (hs : storeV h id off xs = some h') : ∃ h2, storeV (PT.set B m h) id off xs = some h2 := by
  unfold storeV cellsWOf at *
  rw [get_set_ne _ _ _ _ hne]
  cases hg : PT.get id h with
  | none => rw [hg] at hs; cases hs
  | some C =>
    rw [hg] at hs
    cases C <;> simp only at hs ⊢ <;> try (cases hs; done)
    split at hs
    · rename_i hl; rw [if_pos hl]; exact ⟨_, rfl⟩
    · cases hs
theorem Pos.ne_of_lt {p q : Pos} (h : p.num < q.num) : p ≠ q := fun e => by subst e; omega
theorem Pos.ne_of_gt {p q : Pos} (h : q.num < p.num) : p ≠ q := fun e => by subst e; omega
theorem Pos.lt_nxt (p : Pos) : p.num < p.nxt.num := by rw [Pos.num_nxt]; omega


/-! equality of values -/
theorem eqV_struct {d : Nat} {t : TypeId} {fs : Array Field} {cs : List (Bool × Nat × Nat × (AV → AV → Option Bool))} {a b : List AV} (hu : P.underlying t = some (.struct fs)) (hst : P.stoodInHeld t = false) (hf : fieldEqsV (eqV P d) P fs.toList = some cs) : eqV P (d + 1) t (.agg a) (.agg b) = eqFieldsV cs a b := by
  simp only [eqV, hu, hst, hf]
theorem eqV_int {d : Nat} {t : TypeId} {k0 k : IntKind} {a b : Int} (hu : P.underlying t = some (.int k0)) : eqV P (d + 1) t (.i k a) (.i k b) = some (decide (a = b)) := by
  simp only [eqV, hu, if_true]
theorem eqV_bool {d : Nat} {t : TypeId} {a b : Bool} (hu : P.underlying t = some .bool) : eqV P (d + 1) t (.b a) (.b b) = some (a == b) := by
  simp only [eqV, hu]
theorem eqV_str {d : Nat} {t : TypeId} {a b : List Nat} (hu : P.underlying t = some .string) : eqV P (d + 1) t (.s a) (.s b) = some (decide (a = b)) := by
  simp only [eqV, hu]


/-! calls of values; stores -/
def callW (P : Program) (prim : FuncId → Option Prim) (fv : AV) (vs : List AV) (h : Hp) (n : Pos) (K : AV → Hp → Pos → Prop) : Prop := match fv with
  | .fn (.func g) first cap => AC P prim g (first ++ vs ++ cap) h n K
  | _ => False
theorem callW_fn {g : FuncId} {first cap vs : List AV} {h : Hp} {n : Pos} {K : AV → Hp → Pos → Prop} : callW P prim (.fn (.func g) first cap) vs h n K = AC P prim g (first ++ vs ++ cap) h n K := rfl
theorem wpO_callt {K : Ev → Hp → Pos → Prop} {l : Ev} {h : Hp} {n : Pos} {d : Option Nat} {ty : TypeId} {pos : String} {aft : Array Edge} {g : Option (Nat × Bool)} {t : Nat} {args : Array Operand} {ts : Array TypeId} :
    wpO P prim nt ⟨d, .call ⟨.value (.tmp t), args, ts⟩, ty, pos, aft, g⟩ K l h n = onV (lk t l) fun fv => onV (evOs args.toList l) fun vs => callW P prim fv vs h n fun v h' n' => putE nt d v l fun l' => K l' h' n' := by
  unfold wpO onV callW
  have ho : (Op.call ⟨.value (.tmp t), args, ts⟩).operands.toList = .tmp t :: args.toList := by simp [Op.operands, Call.operands]
  simp only [ho, okC, evOs, evO]
  cases lk t l with
  | none => rfl
  | some fv =>
    cases evOs args.toList l with
    | none => rfl
    | some vs =>
      simp only [loudW]
      cases fv <;> (try rfl)
      rename_i f a b
      cases f <;> rfl
theorem stV_ptr {m off : Nat} {id : Pos} {h : Hp} {w : AV} : stV m h (.ptr id off) w = (cellsA w).bind fun xs => if xs.length = m then storeV h id off xs else none := by
  unfold stV
  cases cellsA w <;> rfl


/-! ways apart: nobody walks on ahead of the choice -/
theorem condW_t {A B : Prop} : condW (some (.b true)) A B = A := rfl
theorem condW_f {A B : Prop} : condW (some (.b false)) A B = B := by simp [condW]
theorem onG_tt {y m : Prop} : onG (some (.b true)) true y m = y := rfl
theorem onG_ff {y m : Prop} : onG (some (.b false)) false y m = y := rfl
theorem onG_tf {y m : Prop} : onG (some (.b true)) false y m = m := by simp [onG, boolOf]
theorem onG_ft {y m : Prop} : onG (some (.b false)) true y m = m := by simp [onG, boolOf]
@[congr] theorem condW_congr {v v' : Option AV} {A B : Prop} (h : v = v') : condW v A B = condW v' A B := by rw [h]
@[congr] theorem onG_congr {v v' : Option AV} {w : Bool} {y m : Prop} (h : v = v') : onG v w y m = onG v' w y m := by rw [h]

@[congr] theorem onV_congr {α : Type} {x x' : Option α} {K : α → Prop} (h : x = x') : onV x K = onV x' K := by rw [h]
@[congr] theorem AC_congr {f : FuncId} {vs vs' : List AV} {h h' : Hp} {n n' : Pos} {K : AV → Hp → Pos → Prop} (h1 : vs = vs') (h2 : h = h') (h3 : n = n') : AC P prim f vs h n K = AC P prim f vs' h' n' K := by rw [h1, h2, h3]
@[congr] theorem wpDraw_congr {ops : Array Oper} {Q : Ev → Hp → Pos → Prop} {l l' : Ev} {h h' : Hp} {n n' : Pos} (h1 : l = l') (h2 : h = h') (h3 : n = n') : wpDraw P prim nt ops Q l h n = wpDraw P prim nt ops Q l' h' n' := by rw [h1, h2, h3]
@[congr] theorem wpLoopC_congr {b : Code} {Q : Ex → Ev → Hp → Pos → Prop} {l l' : Ev} {h h' : Hp} {n n' : Pos} (h1 : l = l') (h2 : h = h') (h3 : n = n') : wpLoopC P prim nt b Q l h n = wpLoopC P prim nt b Q l' h' n' := by rw [h1, h2, h3]

section
variable {l l' : Ev} {h h' : Hp} {n n' r r' : Pos} {k k' : Nat} {ps ps' : List Pend}
@[congr] theorem wpC_congr {c : Code} {Q : Ex → Ev → Hp → Pos → Prop} (h1 : l = l') (h2 : h = h') (h3 : n = n') : wpC P prim nt c Q l h n = wpC P prim nt c Q l' h' n' := by rw [h1, h2, h3]
@[congr] theorem wpS_congr {ops : Array Oper} {Q : Ev → Hp → Pos → Prop} {L : List Oper} (h1 : l = l') (h2 : h = h') (h3 : n = n') : wpS P prim nt ops Q L l h n = wpS P prim nt ops Q L l' h' n' := by rw [h1, h2, h3]
@[congr] theorem wpStep_congr {ops : Array Oper} {o : Oper} {K : Ev → Hp → Pos → Prop} (h1 : l = l') (h2 : h = h') (h3 : n = n') : wpStep P prim nt ops o K l h n = wpStep P prim nt ops o K l' h' n' := by rw [h1, h2, h3]
@[congr] theorem wpO_congr {o : Oper} {K : Ev → Hp → Pos → Prop} (h1 : l = l') (h2 : h = h') (h3 : n = n') : wpO P prim nt o K l h n = wpO P prim nt o K l' h' n' := by rw [h1, h2, h3]
@[congr] theorem seqQ_congr {K : Ev → Hp → Pos → Prop} {Q : Ex → Ev → Hp → Pos → Prop} {x : Ex} (h1 : l = l') (h2 : h = h') (h3 : n = n') : seqQ K Q x l h n = seqQ K Q x l' h' n' := by rw [h1, h2, h3]
@[congr] theorem blockQ_congr {id : Nat} {Q : Ex → Ev → Hp → Pos → Prop} {x : Ex} (h1 : l = l') (h2 : h = h') (h3 : n = n') : blockQ id Q x l h n = blockQ id Q x l' h' n' := by rw [h1, h2, h3]
@[congr] theorem wpDs_congr {ops : Array Oper} {K : DK} {L : List Oper} {his : List Nat} (h1 : l = l') (h2 : h = h') (h3 : n = n') (h4 : r = r') (h5 : k = k') (h6 : ps = ps') : wpDs P prim nt ops K L his l h n r k ps = wpDs P prim nt ops K L his l' h' n' r' k' ps' := by rw [h1, h2, h3, h4, h5, h6]
@[congr] theorem wpDStep_congr {ops : Array Oper} {o : Oper} {hi : Nat} {K : DK} (h1 : l = l') (h2 : h = h') (h3 : n = n') (h4 : r = r') (h5 : k = k') (h6 : ps = ps') : wpDStep P prim nt ops o hi K l h n r k ps = wpDStep P prim nt ops o hi K l' h' n' r' k' ps' := by rw [h1, h2, h3, h4, h5, h6]
@[congr] theorem wpDO_congr {o : Oper} {hi : Nat} {K : DK} (h1 : l = l') (h2 : h = h') (h3 : n = n') (h4 : r = r') (h5 : k = k') (h6 : ps = ps') : wpDO P prim nt o hi K l h n r k ps = wpDO P prim nt o hi K l' h' n' r' k' ps' := by rw [h1, h2, h3, h4, h5, h6]
@[congr] theorem putE_congr {d : Option Nat} {v v' : AV} {K : Ev → Prop} (h0 : v = v') (h1 : l = l') : putE nt d v l K = putE nt d v' l' K := by rw [h0, h1]
@[congr] theorem bodyQ_congr {rs : List ResultVar} {K : AV → Hp → Pos → Prop} {x : Ex} (h1 : l = l') (h2 : h = h') (h3 : n = n') : bodyQ P rs K x l h n = bodyQ P rs K x l' h' n' := by rw [h1, h2, h3]
end

end
end Go.Am
