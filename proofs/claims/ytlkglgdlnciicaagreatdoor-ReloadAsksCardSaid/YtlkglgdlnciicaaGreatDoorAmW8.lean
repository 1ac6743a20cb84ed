/- The walk by places: code and operations are named by their numbers, not written out. -/
import Derived.Test.YtlkglgdlnciicaaGreatDoorAmW7
set_option linter.all false
namespace Go.Am
open Go

def sizeC : Code → Nat
  | .seq a b => sizeC a + sizeC b + 1
  | .cond _ a b => sizeC a + sizeC b + 1
  | .block _ b => sizeC b + 1
  | .loop b => sizeC b + 1
  | _ => 1
/-- the k-th piece of code, as one reads on -/
def nthC : Code → Nat → Code
  | c, 0 => c
  | .seq a b, k + 1 => match Nat.ble (k + 1) (sizeC a) with
    | true => nthC a k
    | false => nthC b (k - sizeC a)
  | .cond _ a b, k + 1 => match Nat.ble (k + 1) (sizeC a) with
    | true => nthC a k
    | false => nthC b (k - sizeC a)
  | .block _ b, k + 1 => nthC b k
  | .loop b, k + 1 => nthC b k
  | c, _ + 1 => c
def opsC (c : Code) : Array Oper := match c with
  | .region _ ops _ => ops
  | _ => #[]
def opAt (ops : Array Oper) (j : Nat) : Option (Option Nat × Op × Option (Nat × Bool)) := match ops[j]? with
  | some o => some (o.dst, o.op, o.guard)
  | none => none

section
variable {P : Program} {prim : FuncId → Option Prim} {nt : Nat}
section
variable {Q : Ex → Ev → Hp → Pos → Prop} {l : Ev} {h : Hp} {n : Pos} {c : Code}
theorem A_skip (hc : c = .skip) : St .go (wpC P prim nt c Q l h n) = St .go (Q .normal l h n) := by subst hc; rfl
theorem A_ret (hc : c = .ret) : St .go (wpC P prim nt c Q l h n) = St .go (Q .ret l h n) := by subst hc; rfl
theorem A_exit {id : Nat} (hc : c = .exit id) : St .go (wpC P prim nt c Q l h n) = St .go (Q (.exit id) l h n) := by subst hc; rfl
/-- after the first of two: the second, and then Q (named once) -/
def seqN (P : Program) (prim : FuncId → Option Prim) (nt : Nat) (b : Code) (Q : Ex → Ev → Hp → Pos → Prop) : Ex → Ev → Hp → Pos → Prop := seqQ (wpC P prim nt b Q) Q
theorem S_seqN_normal {b : Code} : St .go (seqN P prim nt b Q .normal l h n) = St .go (wpC P prim nt b Q l h n) := rfl
theorem S_seqN_exit {b : Code} {j : Nat} : St .go (seqN P prim nt b Q (.exit j) l h n) = St .go (Q (.exit j) l h n) := rfl
theorem S_seqN_ret {b : Code} : St .go (seqN P prim nt b Q .ret l h n) = St .go (Q .ret l h n) := rfl
theorem A_seq {a b : Code} (hc : c = .seq a b) : St .go (wpC P prim nt c Q l h n) = St .go (wpC P prim nt a (seqN P prim nt b Q) l h n) := by subst hc; rfl
theorem A_cond {x : Operand} {a b : Code} (hc : c = .cond x a b) : St .go (wpC P prim nt c Q l h n) = condWg (evO x l) (fun g => St g (wpC P prim nt a Q l h n)) (fun g => St g (wpC P prim nt b Q l h n)) := by subst hc; rfl
theorem A_block {id : Nat} {b : Code} (hc : c = .block id b) : St .go (wpC P prim nt c Q l h n) = St .go (wpC P prim nt b (blockQ id Q) l h n) := by subst hc; rfl
theorem A_loop {b : Code} (hc : c = .loop b) : St .go (wpC P prim nt c Q l h n) = wpLoopC P prim nt b Q l h n := by subst hc; rfl

/-- a region, from its j-th operation on -/
def wpN (P : Program) (prim : FuncId → Option Prim) (nt : Nat) (ops : Array Oper) (Q : Ev → Hp → Pos → Prop) (j : Nat) (l : Ev) (h : Hp) (n : Pos) : Prop := wpS P prim nt ops Q (ops.toList.drop j) l h n
theorem A_region {id : Nat} {ops : Array Oper} (hc : c = .region id ops false) : St .go (wpC P prim nt c Q l h n) = St .go (wpN P prim nt ops (Q .normal) 0 l h n) := by subst hc; rfl
theorem A_draw {id : Nat} {ops : Array Oper} (hc : c = .region id ops true) : St .go (wpC P prim nt c Q l h n) = wpDraw P prim nt ops (Q .normal) l h n := by subst hc; rfl
end

theorem opAt_drop {ops : Array Oper} {j : Nat} {d : Option Nat} {op : Op} {g : Option (Nat × Bool)} (ho : opAt ops j = some (d, op, g)) : ∃ ty pos aft, ops.toList.drop j = ⟨d, op, ty, pos, aft, g⟩ :: ops.toList.drop (j + 1) := by
  unfold opAt at ho
  cases hj : ops[j]? with
  | none => rw [hj] at ho; cases ho
  | some o =>
    rw [hj] at ho
    injection ho with ho
    obtain ⟨d', op', ty, pos, aft, g'⟩ := o
    simp only [Prod.mk.injEq] at ho
    obtain ⟨rfl, rfl, rfl⟩ := ho
    obtain ⟨hlt, he⟩ := Array.getElem?_eq_some_iff.1 hj
    refine ⟨ty, pos, aft, ?_⟩
    rw [List.drop_eq_getElem_cons (by simpa using hlt)]
    simp [he]

section
variable {ops : Array Oper} {Q : Ev → Hp → Pos → Prop} {l : Ev} {h : Hp} {n : Pos} {j : Nat} {d : Option Nat} {op : Op}
theorem N_end (hj : ops.size = j) : St .go (wpN P prim nt ops Q j l h n) = St .go (Q l h n) := by
  subst hj
  unfold wpN
  rw [List.drop_eq_nil_of_le (by simp)]
  rfl
theorem N_op (ho : opAt ops j = some (d, op, none)) : St .go (wpN P prim nt ops Q j l h n) = St .go (wpO P prim nt ⟨d, op, 0, "", #[], none⟩ (wpN P prim nt ops Q (j + 1)) l h n) := by
  obtain ⟨ty, pos, aft, hd⟩ := opAt_drop ho
  unfold wpN
  rw [hd]
  rfl
theorem N_gd {i t : Nat} {w : Bool} (ho : opAt ops j = some (d, op, some (i, w))) (hi : (opAt ops i).bind (·.1) = some t) : St .go (wpN P prim nt ops Q j l h n) =
    onGg (lk t l) w (fun g => St g (wpO P prim nt ⟨d, op, 0, "", #[], none⟩ (wpN P prim nt ops Q (j + 1)) l h n)) (fun g => St g (putE nt d undefA l fun l' => wpN P prim nt ops Q (j + 1) l' h n)) := by
  obtain ⟨ty, pos, aft, hd⟩ := opAt_drop ho
  have ht : (ops[i]?).bind (·.dst) = some t := by
    unfold opAt at hi
    cases hx : ops[i]? with
    | none => rw [hx] at hi; cases hi
    | some o => rw [hx] at hi; exact hi
  have e : wpN P prim nt ops Q j l h n = wpStep P prim nt ops ⟨d, op, ty, pos, aft, some (i, w)⟩ (wpN P prim nt ops Q (j + 1)) l h n := by
    unfold wpN
    rw [hd]
    rfl
  rw [e, wpStep_some ht]
  rfl
end

section
variable {ops : Array Oper} {K : DK} {l : Ev} {h : Hp} {n r : Pos} {k : Nat} {ps : List Pend} {his : List Nat} {j : Nat} {d : Option Nat} {op : Op}
def wpDN (P : Program) (prim : FuncId → Option Prim) (nt : Nat) (ops : Array Oper) (K : DK) (his : List Nat) (j : Nat) (l : Ev) (h : Hp) (n r : Pos) (k : Nat) (ps : List Pend) : Prop := wpDs P prim nt ops K (ops.toList.drop j) (his.drop j) l h n r k ps
theorem D_end (hj : ops.size = j) (hl : his.length = j) : St .go (wpDN P prim nt ops K his j l h n r k ps) = St .go (K l h n r k ps) := by
  unfold wpDN
  rw [List.drop_eq_nil_of_le (by simp; omega), List.drop_eq_nil_of_le (by omega)]
  rfl
theorem D_op {hi : Nat} (ho : opAt ops j = some (d, op, none)) (hh : his[j]? = some hi) : St .go (wpDN P prim nt ops K his j l h n r k ps) = St .go (wpDO P prim nt ⟨d, op, 0, "", #[], none⟩ hi (wpDN P prim nt ops K his (j + 1)) l h n r k ps) := by
  obtain ⟨ty, pos, aft, hd⟩ := opAt_drop ho
  obtain ⟨hlt, he⟩ := List.getElem?_eq_some_iff.1 hh
  unfold wpDN
  rw [hd, List.drop_eq_getElem_cons hlt, he]
  rfl
theorem D_gd {hi i t : Nat} {w : Bool} (ho : opAt ops j = some (d, op, some (i, w))) (hh : his[j]? = some hi) (ht : (opAt ops i).bind (·.1) = some t) : St .go (wpDN P prim nt ops K his j l h n r k ps) =
    onGg (lk t l) w (fun g => St g (wpDO P prim nt ⟨d, op, 0, "", #[], none⟩ hi (wpDN P prim nt ops K his (j + 1)) l h n r k ps)) (fun g => St g (putE nt d undefA l fun l' => wpDN P prim nt ops K his (j + 1) l' h n r (match (okC P op).isLoud with
        | true => k + 1
        | false => k) ps)) := by
  obtain ⟨ty, pos, aft, hd⟩ := opAt_drop ho
  obtain ⟨hlt, he⟩ := List.getElem?_eq_some_iff.1 hh
  have ht : (ops[i]?).bind (·.dst) = some t := by
    unfold opAt at ht
    cases hx : ops[i]? with
    | none => rw [hx] at ht; cases ht
    | some o => rw [hx] at ht; exact ht
  have e : wpDN P prim nt ops K his j l h n r k ps = wpDStep P prim nt ops ⟨d, op, ty, pos, aft, some (i, w)⟩ hi (wpDN P prim nt ops K his (j + 1)) l h n r k ps := by
    unfold wpDN
    rw [hd, List.drop_eq_getElem_cons hlt, he]
    rfl
  rw [e, wpDStep_guard, ht]
  rfl
/-- A REGION THAT DRAWS ITS ORDER -/
theorem draw_at (hnt : nt ≤ 100000) {ops : Array Oper} (his : List Nat) (al : Nat) {Q : Ev → Hp → Pos → Prop} {l : Ev} {h : Hp} {n : Pos} (hst : drawStat P ops = some (his, al))
    (hw : St .go (wpDN P prim nt ops (drawEnd Q) his 0 l h (advP al n) n 0 [])) : wpDraw P prim nt ops Q l h n := wpDraw_text hnt hst hw
end
end
end Go.Am
