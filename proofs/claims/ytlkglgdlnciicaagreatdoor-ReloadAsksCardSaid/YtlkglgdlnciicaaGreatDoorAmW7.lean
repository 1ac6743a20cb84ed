/- The walk's rewrite rules (3): nobody walks on where a value is not known. -/
import Derived.Test.YtlkglgdlnciicaaGreatDoorAmW6
set_option linter.all false
namespace Go.Am
open Go

/-- a mark: walk on -/
inductive Tok where
  | go
  | rest
/-- what is to be shown, where the walk stands -/
def St (_ : Tok) (p : Prop) : Prop := p

def onVg {α : Type} (x : Option α) (K : Tok → α → Prop) : Prop := match x with
  | some v => K .go v
  | none => False
theorem onVg_some {α : Type} {v : α} {K : Tok → α → Prop} : onVg (some v) K = K .go v := rfl
theorem onVg_none {α : Type} {K : Tok → α → Prop} : onVg none K = False := rfl
theorem onVg_if {α : Type} {p : Prop} [Decidable p] {x : α} {K : Tok → α → Prop} : onVg (if p then some x else none) K = (p ∧ K .go x) := by
  by_cases h : p
  · rw [if_pos h]; simp [onVg, h]
  · rw [if_neg h]; simp [onVg, h]
def condWg (v : Option AV) (a b : Tok → Prop) : Prop := condW v (a .go) (b .go)
theorem condWg_t {a b : Tok → Prop} : condWg (some (.b true)) a b = a .go := rfl
theorem condWg_f {a b : Tok → Prop} : condWg (some (.b false)) a b = b .go := by simp [condWg, condW]
def onGg (v : Option AV) (w : Bool) (y m : Tok → Prop) : Prop := onG v w (y .go) (m .go)
theorem onGg_tt {y m : Tok → Prop} : onGg (some (.b true)) true y m = y .go := rfl
theorem onGg_ff {y m : Tok → Prop} : onGg (some (.b false)) false y m = y .go := rfl
theorem onGg_tf {y m : Tok → Prop} : onGg (some (.b true)) false y m = m .go := by simp [onGg, onG, boolOf]
theorem onGg_ft {y m : Tok → Prop} : onGg (some (.b false)) true y m = m .go := by simp [onGg, onG, boolOf]
theorem onGg_tup {c : List AV} {w : Bool} {y m : Tok → Prop} : onGg (some (.tup c)) w y m = m .go := by simp [onGg, onG, boolOf]

section
variable {P : Program} {prim : FuncId → Option Prim} {nt : Nat}
def ACg (P : Program) (prim : FuncId → Option Prim) (f : FuncId) (args : List AV) (h : Hp) (n : Pos) (K : Tok → AV → Hp → Pos → Prop) : Prop := AC P prim f args h n (K .go)
theorem ACg_of {f : FuncId} {args : List AV} {h : Hp} {n : Pos} {K : Tok → AV → Hp → Pos → Prop} {K' : AV → Hp → Pos → Prop} (hc : AC P prim f args h n K') (hk : ∀ v h n, K' v h n → K .go v h n) : ACg P prim f args h n K := AC.mono hc hk
def callWg (P : Program) (prim : FuncId → Option Prim) (fv : AV) (vs : List AV) (h : Hp) (n : Pos) (K : Tok → AV → Hp → Pos → Prop) : Prop := callW P prim fv vs h n (K .go)
theorem callWg_fn {g : FuncId} {first cap vs : List AV} {h : Hp} {n : Pos} {K : Tok → AV → Hp → Pos → Prop} : callWg P prim (.fn (.func g) first cap) vs h n K = ACg P prim g (first ++ vs ++ cap) h n K := rfl
theorem St_in {p : Prop} (h : St .go p) : p := h

theorem S_putE_some {t : Nat} {v : AV} {l : Ev} {K : Ev → Prop} : St .go (putE nt (some t) v l K) = (t < nt ∧ St .go (K ((t, v) :: l))) := putE_some
theorem S_putE_none {v : AV} {l : Ev} {K : Ev → Prop} : St .go (putE nt none v l K) = St .go (K l) := putE_none
section
variable {Q : Ex → Ev → Hp → Pos → Prop} {l : Ev} {h : Hp} {n : Pos}
theorem S_wpC_skip : St .go (wpC P prim nt .skip Q l h n) = St .go (Q .normal l h n) := wpC_skip
theorem S_wpC_region {id : Nat} {ops : Array Oper} : St .go (wpC P prim nt (.region id ops false) Q l h n) = St .go (wpS P prim nt ops (Q .normal) ops.toList l h n) := wpC_region
theorem S_wpC_draw {id : Nat} {ops : Array Oper} : St .go (wpC P prim nt (.region id ops true) Q l h n) = wpDraw P prim nt ops (Q .normal) l h n := wpC_draw
theorem S_wpC_seq {a b : Code} : St .go (wpC P prim nt (.seq a b) Q l h n) = St .go (wpC P prim nt a (seqQ (wpC P prim nt b Q) Q) l h n) := wpC_seq
theorem S_wpC_cond {c : Operand} {a b : Code} : St .go (wpC P prim nt (.cond c a b) Q l h n) = condWg (evO c l) (fun g => St g (wpC P prim nt a Q l h n)) (fun g => St g (wpC P prim nt b Q l h n)) := wpC_cond
theorem S_wpC_block {id : Nat} {b : Code} : St .go (wpC P prim nt (.block id b) Q l h n) = St .go (wpC P prim nt b (blockQ id Q) l h n) := wpC_block
theorem S_wpC_loop {b : Code} : St .go (wpC P prim nt (.loop b) Q l h n) = wpLoopC P prim nt b Q l h n := wpC_loop
theorem S_wpC_exit {id : Nat} : St .go (wpC P prim nt (.exit id) Q l h n) = St .go (Q (.exit id) l h n) := wpC_exit
theorem S_wpC_ret : St .go (wpC P prim nt .ret Q l h n) = St .go (Q .ret l h n) := wpC_ret
theorem S_seqQ_normal {K : Ev → Hp → Pos → Prop} : St .go (seqQ K Q .normal l h n) = St .go (K l h n) := seqQ_normal
theorem S_seqQ_exit {K : Ev → Hp → Pos → Prop} {j : Nat} : St .go (seqQ K Q (.exit j) l h n) = St .go (Q (.exit j) l h n) := seqQ_exit
theorem S_seqQ_ret {K : Ev → Hp → Pos → Prop} : St .go (seqQ K Q .ret l h n) = St .go (Q .ret l h n) := seqQ_ret
theorem S_blockQ_normal {id : Nat} : St .go (blockQ id Q .normal l h n) = St .go (Q .normal l h n) := blockQ_normal
theorem S_blockQ_exit {id j : Nat} : St .go (blockQ id Q (.exit j) l h n) = if j = id then St .go (Q .normal l h n) else St .go (Q (.exit j) l h n) := blockQ_exit
theorem S_blockQ_ret {id : Nat} : St .go (blockQ id Q .ret l h n) = St .go (Q .ret l h n) := blockQ_ret
theorem S_bodyQ_normal {rs : List ResultVar} {K : AV → Hp → Pos → Prop} : St .go (bodyQ P rs K .normal l h n) = onVg (resV P rs l h) fun _ vs => K (oneV vs) h n := bodyQ_normal
theorem S_bodyQ_ret {rs : List ResultVar} {K : AV → Hp → Pos → Prop} : St .go (bodyQ P rs K .ret l h n) = onVg (resV P rs l h) fun _ vs => K (oneV vs) h n := bodyQ_ret
end
section
variable {ops : Array Oper} {K : Ev → Hp → Pos → Prop} {l : Ev} {h : Hp} {n : Pos} {d : Option Nat} {ty : TypeId} {pos : String} {aft : Array Edge} {g : Option (Nat × Bool)}
theorem S_wpS_nil {Q : Ev → Hp → Pos → Prop} : St .go (wpS P prim nt ops Q [] l h n) = St .go (Q l h n) := wpS_nil
theorem S_wpS_cons {Q : Ev → Hp → Pos → Prop} {o : Oper} {r : List Oper} : St .go (wpS P prim nt ops Q (o :: r) l h n) = St .go (wpStep P prim nt ops o (wpS P prim nt ops Q r) l h n) := wpS_cons
theorem S_wpStep_none {op : Op} : St .go (wpStep P prim nt ops ⟨d, op, ty, pos, aft, none⟩ K l h n) = St .go (wpO P prim nt ⟨d, op, ty, pos, aft, none⟩ K l h n) := wpStep_none
theorem S_wpO_move {x : Operand} : St .go (wpO P prim nt ⟨d, .move x, ty, pos, aft, g⟩ K l h n) = onVg (evO x l) fun g v => St g (putE nt d v l fun l' => K l' h n) := wpO_move
theorem S_wpO_assign {x : Operand} : St .go (wpO P prim nt ⟨d, .assign x, ty, pos, aft, g⟩ K l h n) = onVg (evO x l) fun g v => St g (putE nt d v l fun l' => K l' h n) := wpO_assign
theorem S_wpO_pick {x y z : Operand} : St .go (wpO P prim nt ⟨d, .pick x y z, ty, pos, aft, g⟩ K l h n) = onVg (evO x l) fun _ c => onVg (evO y l) fun _ a => onVg (evO z l) fun _ b => onVg (pickV c a b) fun g r => St g (putE nt d r l fun l' => K l' h n) := wpO_pick
theorem S_wpO_binOp {op : BinOp} {t u : TypeId} {x y : Operand} : St .go (wpO P prim nt ⟨d, .binOp op t x y u, ty, pos, aft, g⟩ K l h n) = onVg (evO x l) fun _ v => onVg (evO y l) fun _ w => onVg (binV P op t x y v w) fun g r => St g (putE nt d r l fun l' => K l' h n) := wpO_binOp
theorem S_wpO_not {t : TypeId} {x : Operand} : St .go (wpO P prim nt ⟨d, .unOp .not t x, ty, pos, aft, g⟩ K l h n) = onVg (evO x l) fun _ v => onVg (notV v) fun g r => St g (putE nt d r l fun l' => K l' h n) := wpO_not
theorem S_wpO_neg {t : TypeId} {x : Operand} : St .go (wpO P prim nt ⟨d, .unOp .neg t x, ty, pos, aft, g⟩ K l h n) = onVg (evO x l) fun _ v => onVg (negV v) fun g r => St g (putE nt d r l fun l' => K l' h n) := wpO_neg
theorem S_wpO_nilCheck {x : Operand} : St .go (wpO P prim nt ⟨d, .nilCheck x, ty, pos, aft, g⟩ K l h n) = onVg (evO x l) fun _ v => onVg (nilCheckV [v]) fun g r => St g (putE nt d r l fun l' => K l' h n) := wpO_nilCheck
theorem S_wpO_fieldAddr {s : TypeId} {x : Operand} {f m o : Nat} {a : Bool} (hf : fieldOf P s f = some (a, m + 1, o)) : St .go (wpO P prim nt ⟨d, .fieldAddr s x f, ty, pos, aft, g⟩ K l h n) = onVg (evO x l) fun _ v => onVg (fieldAddrV o v) fun g r => St g (putE nt d r l fun l' => K l' h n) := wpO_fieldAddr hf
theorem S_wpO_field {s : TypeId} {x : Operand} {f m o : Nat} {a : Bool} (hf : fieldOf P s f = some (a, m, o)) : St .go (wpO P prim nt ⟨d, .field s x f, ty, pos, aft, g⟩ K l h n) = onVg (evO x l) fun _ v => onVg (fieldV a m o v) fun g r => St g (putE nt d r l fun l' => K l' h n) := wpO_field hf
theorem S_wpO_indexAddr {t : TypeId} {x y : Operand} : St .go (wpO P prim nt ⟨d, .indexAddr t x y, ty, pos, aft, g⟩ K l h n) = onVg (evO x l) fun _ v => onVg (evO y l) fun _ w => onVg (indexAddrV P t [v, w]) fun g r => St g (putE nt d r l fun l' => K l' h n) := wpO_indexAddr
theorem S_wpO_index {t : TypeId} {x y : Operand} : St .go (wpO P prim nt ⟨d, .index t x y, ty, pos, aft, g⟩ K l h n) = onVg (evO x l) fun _ v => onVg (evO y l) fun _ w => onVg (indexV P t [v, w]) fun g r => St g (putE nt d r l fun l' => K l' h n) := wpO_index
theorem S_wpO_extract {x : Operand} {j : Nat} : St .go (wpO P prim nt ⟨d, .extract x j, ty, pos, aft, g⟩ K l h n) = onVg (evO x l) fun _ v => onVg (pureV P (.extract x j) [v]) fun g r => St g (putE nt d r l fun l' => K l' h n) := wpO_extract
theorem S_wpO_convert {s t : TypeId} {x : Operand} {k k' : IntKind} (hs : P.underlying s = some (.int k')) (ht : P.underlying t = some (.int k)) : St .go (wpO P prim nt ⟨d, .convert s t x, ty, pos, aft, g⟩ K l h n) = onVg (evO x l) fun _ v => onVg (pureV P (.convert s t x) [v]) fun g r => St g (putE nt d r l fun l' => K l' h n) := wpO_convert hs ht
theorem S_wpO_len {x : Operand} {t : TypeId} (hm : ∀ a b, P.underlying t ≠ some (.map a b)) : St .go (wpO P prim nt ⟨d, .call ⟨.builtin .len, #[x], #[t]⟩, ty, pos, aft, g⟩ K l h n) = onVg (evO x l) fun _ v => onVg (lenV P #[t] [v]) fun g r => St g (putE nt d r l fun l' => K l' h n) := wpO_len hm
theorem S_wpO_load {t : TypeId} {x : Operand} {a : Bool} {m : Nat} (ha : isAggT P t = some a) (hm : szT P t = some m) : St .go (wpO P prim nt ⟨d, .load t x, ty, pos, aft, g⟩ K l h n) = onVg (evO x l) fun _ v => onVg (ldV a m h v) fun g r => St g (putE nt d r l fun l' => K l' h n) := wpO_load ha hm
theorem S_wpO_alloc {e : TypeId} {z : List AV} (hz : zeroCellsT P e = some z) : St .go (wpO P prim nt ⟨d, .alloc e, ty, pos, aft, g⟩ K l h n) = St .go (putE nt d (.ptr n 0) l fun l' => K l' (PT.set (some (.cells e z)) n h) n.nxt) := wpO_alloc hz
theorem S_wpO_box {e : TypeId} {x : Operand} : St .go (wpO P prim nt ⟨d, .box e x, ty, pos, aft, g⟩ K l h n) = onVg (evO x l) fun _ v => onVg (cellsA v) fun g xs => St g (putE nt d (.ptr n 0) l fun l' => K l' (PT.set (some (.cells e xs)) n h) n.nxt) := wpO_box
theorem S_wpO_buildSlice {t e : TypeId} {m sz : Nat} {ps : Array (Nat × Operand)} {zs : List AV} {xs : List Operand} {pl : List (Nat × Nat)} (he : elemT P t = some e) (hs : szT P e = some sz) (hz : zerosT P e m sz = some zs) (hm : m * sz ≤ 1000000) (hx : ps.toList.map (·.2) = xs) (hp : elemPlaces sz ps.toList = pl) : St .go (wpO P prim nt ⟨d, .buildSlice t m ps, ty, pos, aft, g⟩ K l h n) = onVg (evOs xs l) fun _ vs => onVg (fillV pl zs vs) fun g cs => St g (putE nt d (.sl n 0 m (some m) sz) l fun l' => K l' (PT.set (some (.cells e cs)) n h) n.nxt) := wpO_buildSlice he hs hz hm hx hp
theorem S_wpO_build {t : TypeId} {ps : Array (Nat × Operand)} {z : List AV} {fs : Array Field} {xs : List Operand} {pl : List (Nat × Nat)} (hz : zeroCellsT P t = some z) (hu : P.underlying t = some (.struct fs)) (ha : fs.toList.all (fun f => (szT P f.type).isSome) = true) (hp : fieldPlaces P fs ps.toList = some pl) (hx : ps.toList.map (·.2) = xs) : St .go (wpO P prim nt ⟨d, .build t ps, ty, pos, aft, g⟩ K l h n) = onVg (evOs xs l) fun _ vs => onVg (fillV pl z vs) fun g cs => St g (putE nt d (.agg cs) l fun l' => K l' h n) := wpO_build hz hu ha hp hx
theorem S_wpO_store {t : TypeId} {x y : Operand} {m : Nat} (hm : szT P t = some m) : St .go (wpO P prim nt ⟨d, .store t x y, ty, pos, aft, g⟩ K l h n) = onVg (evO x l) fun _ v => onVg (evO y l) fun _ w => onVg (stV m h v w) fun g h' => St g (putE nt d undefA l fun l' => K l' h' n) := wpO_store hm
theorem S_wpO_call {f : FuncId} {args : Array Operand} {ts : Array TypeId} : St .go (wpO P prim nt ⟨d, .call ⟨.value (.func f), args, ts⟩, ty, pos, aft, g⟩ K l h n) = onVg (evOs args.toList l) fun _ vs => ACg P prim f vs h n fun g v h' n' => St g (putE nt d v l fun l' => K l' h' n') := wpO_call
theorem S_wpO_append {ts : Array TypeId} {x y : Operand} {e : TypeId} {sz by_ : Nat} (ht : appT P ts = some (e, sz, by_)) : St .go (wpO P prim nt ⟨d, .call ⟨.builtin .append, #[x, y], ts⟩, ty, pos, aft, g⟩ K l h n) = onVg (evO x l) fun _ s => onVg (evO y l) fun _ u => onVg (srcV h sz u) fun _ q => onVg (appendV e sz by_ s q.1 q.2 h n) fun g r => St g (putE nt d r.1 l fun l' => K l' r.2.1 r.2.2) := wpO_append ht
theorem S_wpStep_guard {op : Op} {j : Nat} {want : Bool} : St .go (wpStep P prim nt ops ⟨d, op, ty, pos, aft, some (j, want)⟩ K l h n) = onGg (((ops[j]?).bind (·.dst)).bind fun t => lk t l) want (fun g => St g (wpO P prim nt ⟨d, op, ty, pos, aft, some (j, want)⟩ K l h n)) (fun g => St g (putE nt d undefA l fun l' => K l' h n)) := wpStep_guard
theorem S_wpO_callt {t : Nat} {args : Array Operand} {ts : Array TypeId} : St .go (wpO P prim nt ⟨d, .call ⟨.value (.tmp t), args, ts⟩, ty, pos, aft, g⟩ K l h n) = onVg (lk t l) fun _ fv => onVg (evOs args.toList l) fun _ vs => callWg P prim fv vs h n fun g v h' n' => St g (putE nt d v l fun l' => K l' h' n') := wpO_callt
end
section
variable {ops : Array Oper} {K : DK} {l : Ev} {h : Hp} {n r : Pos} {k : Nat} {ps : List Pend} {d : Option Nat} {ty : TypeId} {pos : String} {aft : Array Edge} {g : Option (Nat × Bool)} {hi : Nat}
theorem S_wpDs_nil : St .go (wpDs P prim nt ops K [] [] l h n r k ps) = St .go (K l h n r k ps) := wpDs_nil
theorem S_wpDs_cons {o : Oper} {os : List Oper} {his : List Nat} : St .go (wpDs P prim nt ops K (o :: os) (hi :: his) l h n r k ps) = St .go (wpDStep P prim nt ops o hi (wpDs P prim nt ops K os his) l h n r k ps) := wpDs_cons
theorem S_wpDStep_none {op : Op} : St .go (wpDStep P prim nt ops ⟨d, op, ty, pos, aft, none⟩ hi K l h n r k ps) = St .go (wpDO P prim nt ⟨d, op, ty, pos, aft, none⟩ hi K l h n r k ps) := wpDStep_none
theorem S_wpDStep_guard {op : Op} {j : Nat} {want : Bool} : St .go (wpDStep P prim nt ops ⟨d, op, ty, pos, aft, some (j, want)⟩ hi K l h n r k ps) = onGg (((ops[j]?).bind (·.dst)).bind fun t => lk t l) want (fun g => St g (wpDO P prim nt ⟨d, op, ty, pos, aft, some (j, want)⟩ hi K l h n r k ps)) (fun g => St g (putE nt d undefA l fun l' => K l' h n r (match (okC P op).isLoud with
        | true => k + 1
        | false => k) ps)) := wpDStep_guard
theorem S_wpDO_move {x : Operand} : St .go (wpDO P prim nt ⟨d, .move x, ty, pos, aft, g⟩ hi K l h n r k ps) = St .go (wpO P prim nt ⟨d, .move x, ty, pos, aft, g⟩ (fun l' h' n' => K l' h' n' r k ps) l h n) := wpDO_move
theorem S_wpDO_assign {x : Operand} : St .go (wpDO P prim nt ⟨d, .assign x, ty, pos, aft, g⟩ hi K l h n r k ps) = St .go (wpO P prim nt ⟨d, .assign x, ty, pos, aft, g⟩ (fun l' h' n' => K l' h' n' r k ps) l h n) := wpDO_assign
theorem S_wpDO_pick {x y z : Operand} : St .go (wpDO P prim nt ⟨d, .pick x y z, ty, pos, aft, g⟩ hi K l h n r k ps) = St .go (wpO P prim nt ⟨d, .pick x y z, ty, pos, aft, g⟩ (fun l' h' n' => K l' h' n' r k ps) l h n) := wpDO_pick
theorem S_wpDO_build {t : TypeId} {q : Array (Nat × Operand)} : St .go (wpDO P prim nt ⟨d, .build t q, ty, pos, aft, g⟩ hi K l h n r k ps) = St .go (wpO P prim nt ⟨d, .build t q, ty, pos, aft, g⟩ (fun l' h' n' => K l' h' n' r k ps) l h n) := wpDO_build
theorem S_wpDO_nilCheck {x : Operand} : St .go (wpDO P prim nt ⟨d, .nilCheck x, ty, pos, aft, g⟩ hi K l h n r k ps) = St .go (wpO P prim nt ⟨d, .nilCheck x, ty, pos, aft, g⟩ (fun l' h' n' => K l' h' n' r k ps) l h n) := wpDO_nilCheck
theorem S_wpDO_binOp {op : BinOp} {t u : TypeId} {x y : Operand} : St .go (wpDO P prim nt ⟨d, .binOp op t x y u, ty, pos, aft, g⟩ hi K l h n r k ps) = St .go (wpO P prim nt ⟨d, .binOp op t x y u, ty, pos, aft, g⟩ (fun l' h' n' => K l' h' n' r k ps) l h n) := wpDO_binOp
theorem S_wpDO_unOp {op : UnOp} {t : TypeId} {x : Operand} : St .go (wpDO P prim nt ⟨d, .unOp op t x, ty, pos, aft, g⟩ hi K l h n r k ps) = St .go (wpO P prim nt ⟨d, .unOp op t x, ty, pos, aft, g⟩ (fun l' h' n' => K l' h' n' r k ps) l h n) := wpDO_unOp
theorem S_wpDO_fieldAddr {s : TypeId} {x : Operand} {f : Nat} : St .go (wpDO P prim nt ⟨d, .fieldAddr s x f, ty, pos, aft, g⟩ hi K l h n r k ps) = St .go (wpO P prim nt ⟨d, .fieldAddr s x f, ty, pos, aft, g⟩ (fun l' h' n' => K l' h' n' r k ps) l h n) := wpDO_fieldAddr
theorem S_wpDO_field {s : TypeId} {x : Operand} {f : Nat} : St .go (wpDO P prim nt ⟨d, .field s x f, ty, pos, aft, g⟩ hi K l h n r k ps) = St .go (wpO P prim nt ⟨d, .field s x f, ty, pos, aft, g⟩ (fun l' h' n' => K l' h' n' r k ps) l h n) := wpDO_field
theorem S_wpDO_indexAddr {t : TypeId} {x y : Operand} : St .go (wpDO P prim nt ⟨d, .indexAddr t x y, ty, pos, aft, g⟩ hi K l h n r k ps) = St .go (wpO P prim nt ⟨d, .indexAddr t x y, ty, pos, aft, g⟩ (fun l' h' n' => K l' h' n' r k ps) l h n) := wpDO_indexAddr
theorem S_wpDO_index {t : TypeId} {x y : Operand} : St .go (wpDO P prim nt ⟨d, .index t x y, ty, pos, aft, g⟩ hi K l h n r k ps) = St .go (wpO P prim nt ⟨d, .index t x y, ty, pos, aft, g⟩ (fun l' h' n' => K l' h' n' r k ps) l h n) := wpDO_index
theorem S_wpDO_extract {x : Operand} {j : Nat} : St .go (wpDO P prim nt ⟨d, .extract x j, ty, pos, aft, g⟩ hi K l h n r k ps) = St .go (wpO P prim nt ⟨d, .extract x j, ty, pos, aft, g⟩ (fun l' h' n' => K l' h' n' r k ps) l h n) := wpDO_extract
theorem S_wpDO_convert {s t : TypeId} {x : Operand} {k' : IntKind} (hs : P.underlying s = some (.int k')) : St .go (wpDO P prim nt ⟨d, .convert s t x, ty, pos, aft, g⟩ hi K l h n r k ps) = St .go (wpO P prim nt ⟨d, .convert s t x, ty, pos, aft, g⟩ (fun l' h' n' => K l' h' n' r k ps) l h n) := wpDO_convert hs
theorem S_wpDO_len {x : Operand} {t : TypeId} (hm : ∀ a b, P.underlying t ≠ some (.map a b)) : St .go (wpDO P prim nt ⟨d, .call ⟨.builtin .len, #[x], #[t]⟩, ty, pos, aft, g⟩ hi K l h n r k ps) = St .go (wpO P prim nt ⟨d, .call ⟨.builtin .len, #[x], #[t]⟩, ty, pos, aft, g⟩ (fun l' h' n' => K l' h' n' r k ps) l h n) := wpDO_len hm
theorem S_wpDO_load {t : TypeId} {x : Operand} : St .go (wpDO P prim nt ⟨d, .load t x, ty, pos, aft, g⟩ hi K l h n r k ps) = St .go (wpO P prim nt ⟨d, .load t x, ty, pos, aft, g⟩ (fun l' h' n' => K l' h' n' r k ps) l h n) := wpDO_load
theorem S_wpDO_store {t : TypeId} {x y : Operand} : St .go (wpDO P prim nt ⟨d, .store t x y, ty, pos, aft, g⟩ hi K l h n r k ps) = St .go (wpO P prim nt ⟨d, .store t x y, ty, pos, aft, g⟩ (fun l' h' n' => K l' h' n' r (k + 1) (flushPs k ps)) l (flushH k ps h) n) := wpDO_store
theorem S_wpDO_call {q : Operand} {args : Array Operand} {ts : Array TypeId} : St .go (wpDO P prim nt ⟨d, .call ⟨.value q, args, ts⟩, ty, pos, aft, g⟩ hi K l h n r k ps) = St .go (wpO P prim nt ⟨d, .call ⟨.value q, args, ts⟩, ty, pos, aft, g⟩ (fun l' h' n' => K l' h' n' r (k + 1) (flushPs k ps)) l (flushH k ps h) n) := wpDO_call
theorem S_wpDO_append {args : Array Operand} {ts : Array TypeId} : St .go (wpDO P prim nt ⟨d, .call ⟨.builtin .append, args, ts⟩, ty, pos, aft, g⟩ hi K l h n r k ps) = St .go (wpO P prim nt ⟨d, .call ⟨.builtin .append, args, ts⟩, ty, pos, aft, g⟩ (fun l' h' n' => K l' h' n' r (k + 1) (flushPs k ps)) l (flushH k ps h) n) := wpDO_append
theorem S_wpDO_buildSlice {t e : TypeId} {m sz : Nat} {q : Array (Nat × Operand)} {zs : List AV} {xs : List Operand} {pl : List (Nat × Nat)} (he : elemT P t = some e) (hs : szT P e = some sz) (hz : zerosT P e m sz = some zs) (hm : m * sz ≤ 1000000) (hx : q.toList.map (·.2) = xs) (hp : elemPlaces sz q.toList = pl) : St .go (wpDO P prim nt ⟨d, .buildSlice t m q, ty, pos, aft, g⟩ hi K l h n r k ps) = onVg (evOs xs l) fun _ vs => onVg (fillV pl zs vs) fun g cs => St g (putE nt d (.sl r 0 m (some m) sz) l fun l' => K l' h n r.nxt k (⟨r, .cells e cs, hi⟩ :: ps)) := wpDO_buildSlice he hs hz hm hx hp
theorem S_wpDO_alloc {e : TypeId} {z : List AV} (hz : zeroCellsT P e = some z) : St .go (wpDO P prim nt ⟨d, .alloc e, ty, pos, aft, g⟩ hi K l h n r k ps) = St .go (putE nt d (.ptr r 0) l fun l' => K l' h n r.nxt k (⟨r, .cells e z, hi⟩ :: ps)) := wpDO_alloc hz
theorem S_drawEnd_eq {Q : Ev → Hp → Pos → Prop} : St .go (drawEnd Q l h n r k ps) = (flushPs k ps = [] ∧ St .go (Q l (flushH k ps h) n)) := drawEnd_eq
end

/-- what holds behind a round -/
def loopQ (m : Nat) (I : Nat → Ev → Hp → Pos → Prop) (Q : Ex → Ev → Hp → Pos → Prop) (x : Ex) (l : Ev) (h : Hp) (n : Pos) : Prop := match x with
  | .normal => ∃ m', m' < m ∧ I m' l h n
  | .exit j => Q (.exit j) l h n
  | .ret => Q .ret l h n
theorem S_loopQ_normal {m : Nat} {I : Nat → Ev → Hp → Pos → Prop} {Q : Ex → Ev → Hp → Pos → Prop} {l : Ev} {h : Hp} {n : Pos} : St .go (loopQ m I Q .normal l h n) = ∃ m', m' < m ∧ I m' l h n := rfl
theorem S_loopQ_exit {m j : Nat} {I : Nat → Ev → Hp → Pos → Prop} {Q : Ex → Ev → Hp → Pos → Prop} {l : Ev} {h : Hp} {n : Pos} : St .go (loopQ m I Q (.exit j) l h n) = St .go (Q (.exit j) l h n) := rfl
theorem S_loopQ_ret {m : Nat} {I : Nat → Ev → Hp → Pos → Prop} {Q : Ex → Ev → Hp → Pos → Prop} {l : Ev} {h : Hp} {n : Pos} : St .go (loopQ m I Q .ret l h n) = St .go (Q .ret l h n) := rfl
/-- A LOOP -/
theorem loop_inv {b : Code} {Q : Ex → Ev → Hp → Pos → Prop} (I : Nat → Ev → Hp → Pos → Prop) {l : Ev} {h : Hp} {n : Pos} (m : Nat) (hm : m < 9223372036854775808) (h0 : I m l h n)
    (hr : ∀ m l h n, I m l h n → St .go (wpC P prim nt b (loopQ m I Q) l h n)) : wpLoopC P prim nt b Q l h n :=
  wpLoop_inv I m hm h0 fun m l h n hI => wpC_mono b (hr m l h n hI) fun x l h n hx => by cases x <;> exact hx
/-- A REGION THAT DRAWS ITS ORDER -/
theorem draw_text (hnt : nt ≤ 100000) {ops : Array Oper} (his : List Nat) (al : Nat) {Q : Ev → Hp → Pos → Prop} {l : Ev} {h : Hp} {n : Pos} (hst : drawStat P ops = some (his, al))
    (hw : St .go (wpDs P prim nt ops (drawEnd Q) ops.toList his l h (advP al n) n 0 [])) : wpDraw P prim nt ops Q l h n := wpDraw_text hnt hst hw
/-- A FUNCTION -/
theorem enter {f : FuncId} {fn : Func} {c : Code} {nt : Nat} {rs : List ResultVar} {args : List AV} {h : Hp} {n : Pos} {K : AV → Hp → Pos → Prop} (hp : prim f = none) (hf : P.funcs[f]? = some fn) (hb : fn.body = some c) (hnt : fn.ntmps = nt) (hrs : fn.results.toList = rs) (hle : nt ≤ 100000) (hl : args.length ≤ nt)
    (hw : St .go (wpC P prim nt c (bodyQ P rs K) (argsE args 0) h n)) : AC P prim f args h n K := ac_enter hp hf hb hnt hrs hle hl hw
end
end Go.Am
