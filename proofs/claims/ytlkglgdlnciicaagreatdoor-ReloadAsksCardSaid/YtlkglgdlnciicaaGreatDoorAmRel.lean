/- What an abstract value, an abstract heap say of the model's world; and what steps of the heap keep of it. -/
import Derived.Test.YtlkglgdlnciicaaGreatDoorAmBase
import Derived.Laws.World
import Derived.Laws.Rows
set_option linter.all false
namespace Go.Am

abbrev Phi := Pos → Option (Nat × Nat × Nat)

mutual
def VR (φ : Phi) : AV → Value → Prop
  | .b x, v => v = .bool x
  | .i k n, v => v = .int k n
  | .s l, v => ∃ s : ByteArray, v = .string s ∧ bytesOfBA s = l
  | .nilp, v => v = .pointer none
  | .ptr id off, v => ∃ b base room, φ id = some (b, base, room) ∧ v = .pointer (some ⟨b, base + off, none⟩)
  | .nilsl, v => v = .slice none 0 0
  | .sl id off len cap esz, v => ∃ b base room a cc, φ id = some (b, base, room) ∧ v = .slice (some a) len cc ∧ len ≤ cc ∧
      (cc ≠ 0 → a = ⟨b, base + off, none⟩ ∧ off + cc * esz ≤ room) ∧ (∀ c, cap = some c → cc = c)
  | .nilmp, v => v = .map none
  | .mp id, v => ∃ b base room, φ id = some (b, base, room) ∧ v = .map (some b)
  | .nilfn, v => v = .nilFunc
  | .fn f x y, v => ∃ xs ys, v = .func f xs ys ∧ VRs φ x xs.toList ∧ VRs φ y ys.toList
  | .nilif, v => v = .nilIface
  | .ifc t x, v => ∃ y, v = .iface t y ∧ VR φ x y
  | .agg l, v => ∃ cs, v = .agg cs ∧ VRs φ l cs.toList ∧ ∀ x ∈ l, x.flat = true
  | .tup l, v => ∃ cs, v = .tuple cs ∧ VRs φ l cs.toList
def VRs (φ : Phi) : List AV → List Value → Prop
  | [], [] => True
  | x :: xs, v :: vs => VR φ x v ∧ VRs φ xs vs
  | _, _ => False
end

def Le (φ φ' : Phi) : Prop := ∀ id x, φ id = some x → φ' id = some x

mutual
theorem VR.mono {φ φ' : Phi} (h : Le φ φ') : ∀ (a : AV) (v : Value), VR φ a v → VR φ' a v
  | .b _, _, r => by simpa [VR] using r
  | .i _ _, _, r => by simpa [VR] using r
  | .s _, _, r => by simpa [VR] using r
  | .nilp, _, r => by simpa [VR] using r
  | .ptr _ _, _, r => by
    simp only [VR] at *
    obtain ⟨b, base, room, e, r⟩ := r
    exact ⟨b, base, room, h _ _ e, r⟩
  | .nilsl, _, r => by simpa [VR] using r
  | .sl _ _ _ _ _, _, r => by
    simp only [VR] at *
    obtain ⟨b, base, room, a, cc, e, r⟩ := r
    exact ⟨b, base, room, a, cc, h _ _ e, r⟩
  | .nilmp, _, r => by simpa [VR] using r
  | .mp _, _, r => by
    simp only [VR] at *
    obtain ⟨b, base, room, e, r⟩ := r
    exact ⟨b, base, room, h _ _ e, r⟩
  | .nilfn, _, r => by simpa [VR] using r
  | .fn _ x y, _, r => by
    simp only [VR] at *
    obtain ⟨xs, ys, e, r1, r2⟩ := r
    exact ⟨xs, ys, e, VRs.mono h x _ r1, VRs.mono h y _ r2⟩
  | .nilif, _, r => by simpa [VR] using r
  | .ifc _ x, _, r => by
    simp only [VR] at *
    obtain ⟨y, e, r⟩ := r
    exact ⟨y, e, VR.mono h x y r⟩
  | .agg l, _, r => by
    simp only [VR] at *
    obtain ⟨cs, e, r1, r2⟩ := r
    exact ⟨cs, e, VRs.mono h l _ r1, r2⟩
  | .tup l, _, r => by
    simp only [VR] at *
    obtain ⟨cs, e, r1⟩ := r
    exact ⟨cs, e, VRs.mono h l _ r1⟩
theorem VRs.mono {φ φ' : Phi} (h : Le φ φ') : ∀ (l : List AV) (vs : List Value), VRs φ l vs → VRs φ' l vs
  | [], [], _ => by simp [VRs]
  | [], _ :: _, r => by simp [VRs] at r
  | _ :: _, [], r => by simp [VRs] at r
  | x :: xs, v :: vs, r => by
    simp only [VRs] at *
    exact ⟨VR.mono h x v r.1, VRs.mono h xs vs r.2⟩
end

section vrs
variable {φ : Phi}
theorem VRs.length : ∀ {l : List AV} {vs : List Value}, VRs φ l vs → l.length = vs.length
  | [], [], _ => rfl
  | [], _ :: _, r => by simp [VRs] at r
  | _ :: _, [], r => by simp [VRs] at r
  | _ :: xs, _ :: vs, r => by simp only [VRs] at r; simp [VRs.length r.2]
theorem VRs.nil : VRs φ [] [] := by simp [VRs]
theorem VRs.cons {x : AV} {v : Value} {xs : List AV} {vs : List Value} (h : VR φ x v) (r : VRs φ xs vs) : VRs φ (x :: xs) (v :: vs) := by simp only [VRs]; exact ⟨h, r⟩
theorem VRs.uncons {x : AV} {xs : List AV} {vs : List Value} (r : VRs φ (x :: xs) vs) : ∃ v vs', vs = v :: vs' ∧ VR φ x v ∧ VRs φ xs vs' := by
  cases vs with
  | nil => simp [VRs] at r
  | cons v vs => simp only [VRs] at r; exact ⟨v, vs, rfl, r⟩
theorem VRs.get : ∀ {l : List AV} {vs : List Value} {i : Nat} {a : AV}, VRs φ l vs → l[i]? = some a → ∃ v, vs[i]? = some v ∧ VR φ a v
  | [], _, i, a, _, e => by simp at e
  | _ :: _, [], _, _, r, _ => by simp [VRs] at r
  | x :: xs, v :: vs, 0, a, r, e => by
    simp only [VRs] at r
    simp at e
    subst e
    exact ⟨v, rfl, r.1⟩
  | x :: xs, v :: vs, i + 1, a, r, e => by
    simp only [VRs] at r
    exact VRs.get (i := i) r.2 (by simpa using e)
theorem VRs.take : ∀ {l : List AV} {vs : List Value} (n : Nat), VRs φ l vs → VRs φ (l.take n) (vs.take n)
  | [], [], n, _ => by simp [VRs]
  | [], _ :: _, _, r => by simp [VRs] at r
  | _ :: _, [], _, r => by simp [VRs] at r
  | _ :: _, _ :: _, 0, _ => by simp [VRs]
  | _ :: xs, _ :: vs, n + 1, r => by
    simp only [VRs] at r
    simp only [List.take_succ_cons, VRs]
    exact ⟨r.1, VRs.take n r.2⟩
theorem VRs.drop : ∀ {l : List AV} {vs : List Value} (n : Nat), VRs φ l vs → VRs φ (l.drop n) (vs.drop n)
  | [], [], n, _ => by simp [VRs]
  | [], _ :: _, _, r => by simp [VRs] at r
  | _ :: _, [], _, r => by simp [VRs] at r
  | _ :: _, _ :: _, 0, r => by simpa using r
  | _ :: xs, _ :: vs, n + 1, r => by
    simp only [VRs] at r
    simpa using VRs.drop n r.2
theorem VRs.append : ∀ {l m : List AV} {vs us : List Value}, VRs φ l vs → VRs φ m us → VRs φ (l ++ m) (vs ++ us)
  | [], _, [], _, _, s => by simpa using s
  | [], _, _ :: _, _, r, _ => by simp [VRs] at r
  | _ :: _, _, [], _, r, _ => by simp [VRs] at r
  | _ :: xs, m, _ :: vs, us, r, s => by
    simp only [VRs] at r
    simp only [List.cons_append, VRs]
    exact ⟨r.1, VRs.append r.2 s⟩
end vrs

/-- entries of maps -/
def ERs (φ : Phi) : List (AV × AV) → List MapEntry → Prop
  | [], [] => True
  | (k, v) :: r, e :: es => VR φ k e.key ∧ VR φ v e.val ∧ ERs φ r es
  | _, _ => False

theorem ERs.mono {φ φ' : Phi} (h : Le φ φ') : ∀ {l : List (AV × AV)} {es : List MapEntry}, ERs φ l es → ERs φ' l es
  | [], [], _ => by simp [ERs]
  | [], _ :: _, r => by simp [ERs] at r
  | _ :: _, [], r => by simp [ERs] at r
  | (k, v) :: xs, e :: es, r => by
    simp only [ERs] at *
    exact ⟨VR.mono h _ _ r.1, VR.mono h _ _ r.2.1, ERs.mono h r.2.2⟩

/-- cells of the abstract heap, in the world -/
def CR (P : Program) (φ : Phi) (w : World) (id : Pos) (e : TypeId) (l : List AV) : Prop :=
  ∃ b base room c, φ id = some (b, base, room) ∧ w.heap[b]? = some (.cells c e (0, 0)) ∧ base + room = c.size ∧ l.length ≤ room ∧
      VRs φ l ((c.toList.drop base).take l.length) ∧ (∀ x ∈ l, x.flat = true) ∧ ∀ s, szT P e = some s → base % s = 0

/-- cells that are only read: whatever row they lie in -/
def RR (φ : Phi) (w : World) (id : Pos) (l : List AV) : Prop :=
  ∃ b base room c e fr, φ id = some (b, base, room) ∧ w.heap[b]? = some (.cells c e fr) ∧ base + room ≤ c.size ∧ l.length ≤ room ∧
      VRs φ l ((c.toList.drop base).take l.length) ∧ ∀ x ∈ l, x.flat = true

/-- a block of the abstract heap, in the world -/
def BR (P : Program) (φ : Phi) (w : World) (id : Pos) : ABlk → Prop
  | .cells e l => CR P φ w id e l
  | .ro _ l => RR φ w id l
  | .mp es => ∃ b base room c clock, φ id = some (b, base, room) ∧ w.heap[b]? = some (.map c clock) ∧ ERs φ es c.toList

/-- a block that is only read -/
def ABlk.isRo : ABlk → Bool
  | .ro _ _ => true
  | _ => false

structure HRel (P : Program) (φ : Phi) (h : Hp) (n : Pos) (w : World) : Prop where
  blk : ∀ id B, PT.get id h = some B → BR P φ w id B
  inj : ∀ id id' B B' x x', PT.get id h = some B → PT.get id' h = some B' → (B.isRo && B'.isRo) = false → φ id = some x → φ id' = some x' → x.1 = x'.1 → id = id'
  bound : ∀ id x, φ id = some x → id.num < n.num ∧ x.1 < w.heap.size

structure Fr (φ : Phi) (h : Hp) (n : Pos) (w : World) (φ' : Phi) (h' : Hp) (n' : Pos) (w' : World) : Prop where
  le : Le φ φ'
  num : n.num ≤ n'.num
  size : w.heap.size ≤ w'.heap.size
  old : ∀ b, b < w.heap.size → (∀ id x, (PT.get id h).isSome = true → φ id = some x → x.1 ≠ b) → w'.heap[b]? = w.heap[b]?
  dom : ∀ id x, (PT.get id h').isSome = true → φ' id = some x → w.heap.size ≤ x.1 ∨ ∃ id0 x0, (PT.get id0 h).isSome = true ∧ φ id0 = some x0 ∧ x0.1 = x.1
  tape : w'.tape = w.tape
  os : w'.os = w.os
  out : w'.output = w.output
  fresh : ∀ id x, φ' id = some x → φ id = some x ∨ n.num ≤ id.num
  kept : ∀ id B x, PT.get id h = some B → B.isRo = true → φ id = some x → PT.get id h' = some B ∧ w'.heap[x.1]? = w.heap[x.1]?

theorem Fr.refl (φ : Phi) (h : Hp) (n : Pos) (w : World) : Fr φ h n w φ h n w :=
  ⟨fun _ _ e => e, Nat.le_refl _, Nat.le_refl _, fun _ _ _ => rfl, fun id x i e => .inr ⟨id, x, i, e, rfl⟩, rfl, rfl, rfl, fun _ _ e => .inl e, fun _ _ _ e _ _ => ⟨e, rfl⟩⟩

theorem Fr.trans {φ φ1 φ2 : Phi} {h h1 h2 : Hp} {n n1 n2 : Pos} {w w1 w2 : World} (a : Fr φ h n w φ1 h1 n1 w1) (b : Fr φ1 h1 n1 w1 φ2 h2 n2 w2) :
    Fr φ h n w φ2 h2 n2 w2 where
  le := fun id x e => b.le _ _ (a.le _ _ e)
  num := Nat.le_trans a.num b.num
  size := Nat.le_trans a.size b.size
  old := fun k hk hn => (b.old k (Nat.lt_of_lt_of_le hk a.size) fun id x i e => by
    rcases a.dom id x i e with g | ⟨id0, x0, i0, e0, g⟩
    · omega
    · rw [← g]; exact hn id0 x0 i0 e0).trans (a.old k hk hn)
  dom := fun id x i e => by
    rcases b.dom id x i e with g | ⟨id1, x1, i1, e1, g⟩
    · exact .inl (Nat.le_trans a.size g)
    · rw [← g]; exact a.dom id1 x1 i1 e1
  tape := b.tape.trans a.tape
  os := b.os.trans a.os
  out := b.out.trans a.out
  fresh := fun id x e => (b.fresh id x e).elim (fun e1 => a.fresh id x e1) fun hn => .inr (Nat.le_trans a.num hn)
  kept := fun id B x e hB ex => by
    obtain ⟨e1, e2⟩ := a.kept id B x e hB ex
    obtain ⟨e3, e4⟩ := b.kept id B x e1 hB (a.le _ _ ex)
    exact ⟨e3, e4.trans e2⟩

theorem CR.mono {P : Program} {φ φ' : Phi} {w w' : World} {id : Pos} {e : TypeId} {l : List AV} (hle : Le φ φ') (hb : CR P φ w id e l) (hw : ∀ x, φ id = some x → w'.heap[x.1]? = w.heap[x.1]?) : CR P φ' w' id e l := by
  obtain ⟨b, base, room, c, e1, e2, e3, e4, e5, e6, e7⟩ := hb
  exact ⟨b, base, room, c, hle _ _ e1, (hw _ e1).trans e2, e3, e4, VRs.mono hle _ _ e5, e6, e7⟩

theorem RR.mono {φ φ' : Phi} {w w' : World} {id : Pos} {l : List AV} (hle : Le φ φ') (hb : RR φ w id l) (hw : ∀ x, φ id = some x → w'.heap[x.1]? = w.heap[x.1]?) : RR φ' w' id l := by
  obtain ⟨b, base, room, c, e, fr, e1, e2, e3, e4, e5, e6⟩ := hb
  exact ⟨b, base, room, c, e, fr, hle _ _ e1, (hw _ e1).trans e2, e3, e4, VRs.mono hle _ _ e5, e6⟩

theorem BR.mono {P : Program} {φ φ' : Phi} {w w' : World} {id : Pos} {B : ABlk} (hle : Le φ φ') (hb : BR P φ w id B) (hw : ∀ x, φ id = some x → w'.heap[x.1]? = w.heap[x.1]?) : BR P φ' w' id B := by
  cases B with
  | cells e l => exact CR.mono hle hb hw
  | ro e l => exact RR.mono hle hb hw
  | mp es =>
    obtain ⟨b, base, room, c, k, e1, e2, e3⟩ := hb
    exact ⟨b, base, room, c, k, hle _ _ e1, (hw _ e1).trans e2, ERs.mono hle e3⟩

theorem BR.phi {P : Program} {φ : Phi} {w : World} {id : Pos} {B : ABlk} (hb : BR P φ w id B) : ∃ x, φ id = some x ∧ x.1 < w.heap.size := by
  cases B with
  | cells e l => obtain ⟨b, base, room, c, e1, e2, _⟩ := hb; exact ⟨_, e1, (Array.getElem?_eq_some_iff.1 e2).1⟩
  | ro e l => obtain ⟨b, base, room, c, e, fr, e1, e2, _⟩ := hb; exact ⟨_, e1, (Array.getElem?_eq_some_iff.1 e2).1⟩
  | mp es => obtain ⟨b, base, room, c, k, e1, e2, _⟩ := hb; exact ⟨_, e1, (Array.getElem?_eq_some_iff.1 e2).1⟩

/-- one place more -/
noncomputable def upd (φ : Phi) (n : Pos) (x : Nat × Nat × Nat) : Phi := fun id => match id.eq n with
  | true => some x
  | false => φ id
theorem upd_same (φ : Phi) (n : Pos) (x) : upd φ n x n = some x := by simp [upd, Pos.eq_refl]
theorem upd_ne {φ : Phi} {n id : Pos} {x} (h : id ≠ n) : upd φ n x id = φ id := by
  unfold upd
  cases e : id.eq n with
  | true => exact absurd (Pos.eq_of e) h
  | false => rfl
theorem upd_fresh {φ : Phi} {n id : Pos} {x y} (e : upd φ n x id = some y) : φ id = some y ∨ n.num ≤ id.num := by
  by_cases h : id = n
  · subst h; exact .inr (Nat.le_refl _)
  · rw [upd_ne h] at e; exact .inl e
theorem upd_le {P : Program} {φ : Phi} {h : Hp} {n : Pos} {w : World} {x} (r : HRel P φ h n w) : Le φ (upd φ n x) := fun id y e => by
  rw [upd_ne (fun g => by subst g; exact absurd (r.bound _ _ e).1 (Nat.lt_irrefl _))]
  exact e

/-- the world is another one, but nobody's blocks are -/
theorem HRel.world {P : Program} {φ : Phi} {h : Hp} {n : Pos} {w w' : World} (r : HRel P φ h n w) (hs : w.heap.size ≤ w'.heap.size)
    (hw : ∀ id x, (PT.get id h).isSome = true → φ id = some x → w'.heap[x.1]? = w.heap[x.1]?) : HRel P φ h n w' where
  blk := fun id B e => (r.blk id B e).mono (fun _ _ e => e) fun x ex => hw id x (by simp [e]) ex
  inj := r.inj
  bound := fun id x e => ⟨(r.bound id x e).1, Nat.lt_of_lt_of_le (r.bound id x e).2 hs⟩

theorem isSome_set_none {h : Hp} {id id' : Pos} (e : (PT.get id' (PT.set none id h)).isSome = true) : id' ≠ id ∧ (PT.get id' h).isSome = true := by
  by_cases g : id = id'
  · subst g; rw [get_set_same] at e; cases e
  · rw [get_set_ne _ _ _ _ g] at e; exact ⟨fun x => g x.symm, e⟩

theorem get_set_none {h : Hp} {id id' : Pos} {B : ABlk} (e : PT.get id' (PT.set none id h) = some B) : id' ≠ id ∧ PT.get id' h = some B := by
  by_cases g : id = id'
  · subst g; rw [get_set_same] at e; cases e
  · rw [get_set_ne _ _ _ _ g] at e; exact ⟨fun x => g x.symm, e⟩

/-- a block is let go -/
theorem HRel.drop {P : Program} {φ : Phi} {h : Hp} {n : Pos} {w : World} (r : HRel P φ h n w) (id : Pos) : HRel P φ (PT.set none id h) n w where
  blk := fun id' B e => r.blk _ _ (get_set_none e).2
  inj := fun i j B C x y hi hj => r.inj i j B C x y (get_set_none hi).2 (get_set_none hj).2
  bound := r.bound

/-- a block of an identity that has its place already -/
theorem HRel.insert {P : Program} {φ : Phi} {h : Hp} {n : Pos} {w : World} (r : HRel P φ h n w) (id : Pos) (B : ABlk) (hb : BR P φ w id B)
    (hn : ∀ id' x x', id' ≠ id → (PT.get id' h).isSome = true → φ id' = some x' → φ id = some x → x'.1 ≠ x.1) : HRel P φ (PT.set (some B) id h) n w where
  blk := fun id' B' e => by
    by_cases g : id = id'
    · subst g; rw [get_set_same] at e; injection e with e; subst e; exact hb
    · rw [get_set_ne _ _ _ _ g] at e; exact r.blk _ _ e
  inj := fun i j B1 B2 x y hi hj hro ex ey exy => by
    by_cases g : id = i
    · by_cases g' : id = j
      · exact g.symm.trans g'
      · rw [get_set_ne _ _ _ _ g'] at hj
        subst g
        exact absurd exy.symm (hn j x y (Ne.symm g') (by simp [hj]) ey ex)
    · by_cases g' : id = j
      · rw [get_set_ne _ _ _ _ g] at hi
        subst g'
        exact absurd exy (hn i y x (Ne.symm g) (by simp [hi]) ex ey)
      · rw [get_set_ne _ _ _ _ g] at hi
        rw [get_set_ne _ _ _ _ g'] at hj
        exact r.inj i j B1 B2 x y hi hj hro ex ey exy
  bound := r.bound

/-- a new identity for a block of the world that is nobody's -/
theorem HRel.name {P : Program} {φ : Phi} {h : Hp} {n : Pos} {w : World} (r : HRel P φ h n w) (x : Nat × Nat × Nat) (hx : x.1 < w.heap.size) : HRel P (upd φ n x) h n.nxt w where
  blk := fun id B e => (r.blk id B e).mono (upd_le r) fun _ _ => rfl
  inj := fun i j B C y z hi hj hro ey ez => by
    obtain ⟨y', ey', _⟩ := (r.blk i B hi).phi
    obtain ⟨z', ez', _⟩ := (r.blk j C hj).phi
    rw [upd_le r _ _ ey'] at ey
    rw [upd_le r _ _ ez'] at ez
    injection ey with ey
    injection ez with ez
    subst ey ez
    exact r.inj i j B C _ _ hi hj hro ey' ez'
  bound := fun id y e => by
    by_cases g : id = n
    · subst g; rw [upd_same] at e; injection e with e; subst e; exact ⟨by rw [Pos.num_nxt]; omega, hx⟩
    · rw [upd_ne g] at e; have := r.bound _ _ e; exact ⟨by rw [Pos.num_nxt]; omega, this.2⟩

/-- the abstract block that a new object of the world is -/
def NewB (φ : Phi) (room : Nat) (o : Obj) : ABlk → Prop
  | .cells e l => ∃ c, o = .cells c e (0, 0) ∧ room = c.size ∧ l.length ≤ room ∧ VRs φ l (c.toList.take l.length) ∧ ∀ x ∈ l, x.flat = true
  | .ro _ _ => False
  | .mp es => ∃ c clock, o = .map c clock ∧ ERs φ es c.toList

theorem NewB.br {P : Program} {φ : Phi} {w : World} {room : Nat} {o : Obj} {B : ABlk} {id : Pos} {b : Nat} (h : NewB φ room o B) (φ' : Phi) (hle : Le φ φ') (hid : φ' id = some (b, 0, room)) (ho : w.heap[b]? = some o) : BR P φ' w id B := by
  cases B with
  | cells e l =>
    obtain ⟨c, rfl, e1, e2, e3, e4⟩ := h
    exact ⟨b, 0, room, c, hid, ho, by omega, e2, by simpa using VRs.mono hle _ _ e3, e4, fun s _ => Nat.zero_mod s⟩
  | ro e l => exact h.elim
  | mp es =>
    obtain ⟨c, k, rfl, e1⟩ := h
    exact ⟨b, 0, room, c, k, hid, ho, ERs.mono hle e1⟩

theorem get_next {P : Program} {φ : Phi} {h : Hp} {n : Pos} {w : World} (r : HRel P φ h n w) : PT.get n h = none := by
  cases e : PT.get n h with
  | none => rfl
  | some B =>
    obtain ⟨x, ex, _⟩ := (r.blk n B e).phi
    exact absurd (r.bound _ _ ex).1 (Nat.lt_irrefl _)

/-- a new object, that has an identity, but isn't in the heap yet -/
theorem HRel.later {P : Program} {φ : Phi} {h : Hp} {n : Pos} {w : World} (r : HRel P φ h n w) (o : Obj) (room : Nat) :
    HRel P (upd φ n (w.heap.size, 0, room)) h n.nxt (w.alloc o) ∧ Fr φ h n w (upd φ n (w.heap.size, 0, room)) h n.nxt (w.alloc o) := by
  have r1 : HRel P φ h n (w.alloc o) := r.world (by simp) fun id x i e => heap_alloc_old w o x.1 (r.bound _ _ e).2
  refine ⟨r1.name _ (by simp), upd_le r, by rw [Pos.num_nxt]; omega, by simp, fun b hb _ => heap_alloc_old w o b hb, fun id x i e => ?_, rfl, rfl, rfl, fun id x e => upd_fresh e, fun id B x e _ ex => ⟨e, heap_alloc_old w o x.1 (r.bound _ _ ex).2⟩⟩
  obtain ⟨B, eB⟩ := Option.isSome_iff_exists.1 i
  obtain ⟨y, ey, _⟩ := (r.blk id B eB).phi
  rw [upd_le r _ _ ey] at e
  injection e with e
  subst e
  exact .inr ⟨id, _, i, ey, rfl⟩

/-- a new object -/
theorem HRel.add {P : Program} {φ : Phi} {h : Hp} {n : Pos} {w : World} (r : HRel P φ h n w) (o : Obj) (room : Nat) (B : ABlk) (hB : NewB φ room o B) :
    HRel P (upd φ n (w.heap.size, 0, room)) (PT.set (some B) n h) n.nxt (w.alloc o) ∧
      Fr φ h n w (upd φ n (w.heap.size, 0, room)) (PT.set (some B) n h) n.nxt (w.alloc o) := by
  obtain ⟨r1, f1⟩ := r.later o room
  refine ⟨r1.insert n B (hB.br _ (upd_le r) (upd_same _ _ _) (heap_alloc_new w o)) fun id' x x' hne i e e' => ?_, f1.le, f1.num, f1.size, f1.old, fun id x i e => ?_, rfl, rfl, rfl, f1.fresh, fun id C x e hC ex => ⟨?_, (f1.kept id C x e hC ex).2⟩⟩
  · rw [upd_same] at e'
    injection e' with e'
    subst e'
    rw [upd_ne hne] at e
    have := (r.bound _ _ e).2
    omega
  · by_cases g : n = id
    · subst g; rw [upd_same] at e; injection e with e; subst e; exact .inl (Nat.le_refl _)
    · rw [get_set_ne _ _ _ _ g] at i
      exact f1.dom id x i e
  · rw [get_set_ne _ _ _ _ (fun g => by subst g; rw [get_next r] at e; cases e)]
    exact e

/-- somebody's block is turned -/
theorem HRel.turn {P : Program} {φ : Phi} {h : Hp} {n : Pos} {w w' : World} {x : Nat × Nat × Nat} {B0 : ABlk} (r : HRel P φ h n w) (id : Pos) (B : ABlk) (hi : PT.get id h = some B0) (hro : B0.isRo = false) (hro' : B.isRo = false) (hx : φ id = some x)
    (hs : w'.heap.size = w.heap.size) (ho : ∀ k, k ≠ x.1 → w'.heap[k]? = w.heap[k]?) (hB : BR P φ w' id B) (ht : w'.tape = w.tape) (hos : w'.os = w.os) (hout : w'.output = w.output) :
    HRel P φ (PT.set (some B) id h) n w' ∧ Fr φ h n w φ (PT.set (some B) id h) n w' := by
  have hd : ∀ id' C, PT.get id' (PT.set (some B) id h) = some C → ∃ D, PT.get id' h = some D ∧ D.isRo = C.isRo := fun id' C i => by
    by_cases g : id = id'
    · subst g; rw [get_set_same] at i; injection i with i; subst i; exact ⟨B0, hi, by rw [hro, hro']⟩
    · rw [get_set_ne _ _ _ _ g] at i; exact ⟨C, i, rfl⟩
  refine ⟨⟨fun id' B' e => ?_, fun i j C D y z hi' hj hr => ?_, fun id' y e => ⟨(r.bound _ _ e).1, by rw [hs]; exact (r.bound _ _ e).2⟩⟩,
    fun _ _ e => e, Nat.le_refl _, Nat.le_of_eq hs.symm, fun b hb hn => ho b (Ne.symm (hn id x (by simp [hi]) hx)), fun id' y i e => ?_, ht, hos, hout, fun _ _ e => .inl e, fun id' C y e hC ey => ?_⟩
  · by_cases g : id = id'
    · subst g; rw [get_set_same] at e; injection e with e; subst e; exact hB
    · rw [get_set_ne _ _ _ _ g] at e
      refine (r.blk _ _ e).mono (fun _ _ e => e) fun y ey => ho _ fun hxy => g (r.inj id id' _ _ x y hi e (by rw [hro]; rfl) hx ey hxy.symm)
  · obtain ⟨C', c1, c2⟩ := hd i C hi'
    obtain ⟨D', d1, d2⟩ := hd j D hj
    exact r.inj i j C' D' y z c1 d1 (by rw [c2, d2]; exact hr)
  · obtain ⟨C, i⟩ := Option.isSome_iff_exists.1 i
    obtain ⟨D, d1, _⟩ := hd id' C i
    exact .inr ⟨id', y, by simp [d1], e, rfl⟩
  · have g : id ≠ id' := fun g => by subst g; rw [hi] at e; injection e with e; subst e; rw [hro] at hC; cases hC
    exact ⟨by rw [get_set_ne _ _ _ _ g]; exact e, ho _ fun hxy => g (r.inj id id' _ _ x y hi e (by rw [hro]; rfl) hx ey hxy.symm)⟩

/-- a block that was somebody's is a new identity's, turned -/
theorem HRel.take {P : Program} {φ : Phi} {h : Hp} {n : Pos} {w w' : World} {x : Nat × Nat × Nat} {B0 : ABlk} (r : HRel P φ h n w) (id : Pos) (B : ABlk) (base room : Nat) (hi : PT.get id h = some B0) (hro : B0.isRo = false) (hx : φ id = some x)
    (hs : w'.heap.size = w.heap.size) (ho : ∀ k, k ≠ x.1 → w'.heap[k]? = w.heap[k]?) (hB : BR P (upd φ n (x.1, base, room)) w' n B) (ht : w'.tape = w.tape) (hos : w'.os = w.os) (hout : w'.output = w.output) :
    HRel P (upd φ n (x.1, base, room)) (PT.set (some B) n (PT.set none id h)) n.nxt w' ∧ Fr φ h n w (upd φ n (x.1, base, room)) (PT.set (some B) n (PT.set none id h)) n.nxt w' := by
  have apart : ∀ id' C y, id' ≠ id → PT.get id' h = some C → φ id' = some y → y.1 ≠ x.1 := fun id' C y hne i e hxy =>
    hne (r.inj id' id _ _ y x i hi (by rw [hro, Bool.and_false]) e hx hxy)
  have r1 : HRel P φ (PT.set none id h) n w' := (r.drop id).world (Nat.le_of_eq hs.symm) fun id' y i e => ho _ (by
    obtain ⟨C, i⟩ := Option.isSome_iff_exists.1 i
    have := get_set_none i
    exact apart id' C y this.1 this.2 e)
  have r2 := r1.name (x.1, base, room) (by rw [hs]; exact (r.bound _ _ hx).2)
  refine ⟨r2.insert n B hB fun id' y y' hne i e e' => ?_, upd_le r1, by rw [Pos.num_nxt]; omega, Nat.le_of_eq hs.symm, fun b hb hn => ho b (Ne.symm (hn id x (by simp [hi]) hx)), fun id' y i e => ?_, ht, hos, hout, fun id x e => upd_fresh e, fun id' C y e hC ey => ?_⟩
  · rw [upd_same] at e'
    injection e' with e'
    subst e'
    rw [upd_ne hne] at e
    obtain ⟨C, i⟩ := Option.isSome_iff_exists.1 i
    have := get_set_none i
    exact apart id' C y' this.1 this.2 e
  · by_cases g : n = id'
    · subst g; rw [upd_same] at e; injection e with e; subst e; exact .inr ⟨id, x, by simp [hi], hx, rfl⟩
    · rw [get_set_ne _ _ _ _ g] at i
      rw [upd_ne (Ne.symm g)] at e
      exact .inr ⟨id', y, (isSome_set_none i).2, e, rfl⟩
  · have g : id ≠ id' := fun g => by subst g; rw [hi] at e; injection e with e; subst e; rw [hro] at hC; cases hC
    have g2 : n ≠ id' := fun g => by subst g; rw [get_next r] at e; cases e
    exact ⟨by rw [get_set_ne _ _ _ _ g2, get_set_ne _ _ _ _ g]; exact e, ho _ (apart id' C y (Ne.symm g) e ey)⟩

theorem HRel.drew {P : Program} {φ : Phi} {h : Hp} {n : Pos} {w : World} (r : HRel P φ h n w) : HRel P φ h n w.drew := r.world (Nat.le_refl _) fun _ _ _ _ => rfl
theorem Fr.drew (φ : Phi) (h : Hp) (n : Pos) (w : World) : Fr φ h n w φ h n w.drew :=
  ⟨fun _ _ e => e, Nat.le_refl _, Nat.le_refl _, fun _ _ _ => rfl, fun id x i e => .inr ⟨id, x, i, e, rfl⟩, rfl, rfl, rfl, fun _ _ e => .inl e, fun _ _ _ e _ _ => ⟨e, rfl⟩⟩

end Go.Am
