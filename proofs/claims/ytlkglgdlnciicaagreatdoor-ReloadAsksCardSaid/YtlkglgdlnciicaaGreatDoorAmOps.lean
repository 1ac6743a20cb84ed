/- Operations that touch no heap are sound. -/
import Derived.Test.YtlkglgdlnciicaaGreatDoorAmPure
import Derived.Laws.Slices
import Derived.Laws.Small
import Derived.Laws.Build
import Derived.Great.BuildSlice
set_option linter.all false
namespace Go.Am
open Go

section
variable {P : Program}

/-- a pure operation's closure answers what the operation yields, of every operands that read so -/
def PureOk (P : Program) (op : Op) (f : PureC) : Prop :=
  ∀ vs k, f.run vs k = true → ∃ v, k v = true ∧ ∀ (φ : Phi) (ρ : Operand → Value) (o : Oper) (w : World), o.op = op → VRs φ vs (op.operands.toList.map ρ) →
    ∃ cv, (execOp ρ o).run P w = .ok (.value cv) w ∧ VR φ v cv

theorem pureBad_ok (op : Op) : PureOk P op pureBad := fun _ _ h => by cases h

theorem exec_v {s : Sem Value} {cv : Value} {w w' : World} (h : s.run P w = .ok cv w') : (do pure (Next.value (← s)) : Sem Next).run P w = .ok (.value cv) w' := by simp [h]

theorem vrs1 {φ : Phi} {x : AV} {r : List AV} {v : Value} (h : VRs φ (x :: r) [v]) : VR φ x v := by simp only [VRs] at h; exact h.1
theorem vrs2 {φ : Phi} {x y : AV} {r : List AV} {v u : Value} (h : VRs φ (x :: y :: r) [v, u]) : VR φ x v ∧ VR φ y u := by simp only [VRs] at h; exact ⟨h.1, h.2.1⟩
theorem vrs3 {φ : Phi} {x y z : AV} {r : List AV} {v u t : Value} (h : VRs φ (x :: y :: z :: r) [v, u, t]) : VR φ x v ∧ VR φ y u ∧ VR φ z t := by simp only [VRs] at h; exact ⟨h.1, h.2.1, h.2.2.1⟩

theorem move_ok (x : Operand) : PureOk P (.move x) ⟨fun vs c => one vs c⟩ := fun vs k h => by
  obtain ⟨v, r, rfl, h1⟩ := one_of h
  exact ⟨v, h1, fun φ ρ o w ho hr => ⟨ρ x, by simp [execOp, ho], vrs1 hr⟩⟩
theorem assign_ok (x : Operand) : PureOk P (.assign x) ⟨fun vs c => one vs c⟩ := fun vs k h => by
  obtain ⟨v, r, rfl, h1⟩ := one_of h
  exact ⟨v, h1, fun φ ρ o w ho hr => ⟨ρ x, by simp [execOp, ho], vrs1 hr⟩⟩
theorem pick_ok (c a b : Operand) : PureOk P (.pick c a b) (pureC P (.pick c a b)) := fun vs k h => by
  obtain ⟨x, r, rfl, h1⟩ := hd_of h
  obtain ⟨y, z, r, rfl, h2⟩ := duo_of h1
  obtain ⟨t, rfl, h3⟩ := asB_of h2
  rcases bK_of h3 with ⟨rfl, h4⟩ | ⟨rfl, h4⟩
  · refine ⟨y, h4, fun φ ρ o w ho hr => ⟨ρ a, ?_, (vrs3 hr).2.1⟩⟩
    have := (vrs3 hr).1
    simp only [VR] at this
    simp [execOp, ho, this, asBool]
  · refine ⟨z, h4, fun φ ρ o w ho hr => ⟨ρ b, ?_, (vrs3 hr).2.2⟩⟩
    have := (vrs3 hr).1
    simp only [VR] at this
    simp [execOp, ho, this, asBool]

/-! arithmetic -/
theorem wrap_in (k : IntKind) (n : Int) (h1 : -(lowOf k : Int) ≤ n) (h2 : n ≤ topOf k) : k.wrap n = n := by
  cases k <;> simp [lowOf, topOf] at h1 h2 <;> simp [IntKind.wrap, IntKind.bits, IntKind.signed] <;> omega

theorem wrapK_of {k : IntKind} {n : Int} {c : AV → Bool} (h : wrapK k n c = true) : c (.i k (k.wrap n)) = true := by
  cases n with
  | ofNat m =>
    have h' : bK (Nat.ble m (topOf k)) (fNat m fun m' => c (.i k (.ofNat m'))) (fInt (IntKind.wrap k (.ofNat m)) fun r => c (.i k r)) = true := h
    rcases bK_of h' with ⟨hb, h1⟩ | ⟨_, h1⟩
    · rw [fNat_eq] at h1
      have := nble_of hb
      rw [wrap_in k (.ofNat m) (by simp only [Int.ofNat_eq_natCast]; omega) (by simp only [Int.ofNat_eq_natCast]; omega)]
      exact h1
    · rw [fInt_eq] at h1; exact h1
  | negSucc m =>
    have h' : bK (Nat.ble (m + 1) (lowOf k)) (fNat m fun m' => c (.i k (.negSucc m'))) (fInt (IntKind.wrap k (.negSucc m)) fun r => c (.i k r)) = true := h
    rcases bK_of h' with ⟨hb, h1⟩ | ⟨_, h1⟩
    · rw [fNat_eq] at h1
      have := nble_of hb
      rw [wrap_in k (.negSucc m) (by omega) (by omega)]
      exact h1
    · rw [fInt_eq] at h1; exact h1

theorem bits_nat (k : IntKind) (x : Nat) (hx : x ≤ topOf k) : (BitVec.ofInt k.bits (.ofNat x)).toNat = x := by
  have : x < 2 ^ k.bits := by cases k <;> simp [topOf] at hx <;> simp [IntKind.bits] <;> omega
  simp
  exact Nat.mod_eq_of_lt this

theorem top_pow (k : IntKind) : ∃ m, topOf k = 2 ^ m - 1 ∧ m ≤ k.bits ∧ (lowOf k = 0 → m = k.bits) := by
  cases k
  case i8 => exact ⟨7, rfl, by decide, by decide⟩
  case i16 => exact ⟨15, rfl, by decide, by decide⟩
  case i32 => exact ⟨31, rfl, by decide, by decide⟩
  case i64 => exact ⟨63, rfl, by decide, by decide⟩
  case u8 => exact ⟨8, rfl, by decide, by decide⟩
  case u16 => exact ⟨16, rfl, by decide, by decide⟩
  case u32 => exact ⟨32, rfl, by decide, by decide⟩
  case u64 => exact ⟨64, rfl, by decide, by decide⟩

theorem and_top (k : IntKind) (x y : Nat) (hx : x ≤ topOf k) : x &&& y ≤ topOf k := Nat.le_trans Nat.and_le_left hx
theorem or_top (k : IntKind) (x y : Nat) (hx : x ≤ topOf k) (hy : y ≤ topOf k) : x ||| y ≤ topOf k := by
  obtain ⟨m, hm, _⟩ := top_pow k
  have hp : 0 < 2 ^ m := Nat.two_pow_pos m
  have := Nat.or_lt_two_pow (x := x) (y := y) (n := m) (by omega) (by omega)
  omega

/-- the words of arithmetic and comparison, at one kind -/
theorem aint_of {op : BinOp} {k : IntKind} {a b : Int} {c : AV → Bool} (h : aintC op k a b c = true) :
    ∃ v, c v = true ∧ op ≠ .shl ∧ op ≠ .shr ∧ ∀ (φ : Phi) (w : World) (t : TypeId), ∃ cv, (binOp op t (.int k a) (.int k b)).run P w = .ok cv w ∧ VR φ v cv := by
  cases op <;> simp only [aintC] at h
  case add => exact ⟨_, wrapK_of h, by simp, by simp, fun φ w t => ⟨.int k (k.wrap (a + b)), by simp [binOp, Op.intArith], by simp [VR]⟩⟩
  case sub => exact ⟨_, wrapK_of h, by simp, by simp, fun φ w t => ⟨.int k (k.wrap (a - b)), by simp [binOp, Op.intArith], by simp [VR]⟩⟩
  case mul => exact ⟨_, wrapK_of h, by simp, by simp, fun φ w t => ⟨.int k (k.wrap (a * b)), by simp [binOp, Op.intArith], by simp [VR]⟩⟩
  case quo =>
    rcases bK_of h with ⟨_, h1⟩ | ⟨h0, h1⟩
    · cases h1
    · rw [ieq_eq] at h0
      have hb : b ≠ 0 := by simpa using h0
      exact ⟨_, wrapK_of h1, by simp, by simp, fun φ w t => ⟨.int k (k.wrap (a.tdiv b)), by simp [binOp, Op.intDiv, hb], by simp [VR]⟩⟩
  case rem =>
    rcases bK_of h with ⟨_, h1⟩ | ⟨h0, h1⟩
    · cases h1
    · rw [ieq_eq] at h0
      have hb : b ≠ 0 := by simpa using h0
      rw [fInt_eq] at h1
      exact ⟨_, h1, by simp, by simp, fun φ w t => ⟨.int k (a.tmod b), by simp [binOp, Op.intDiv, hb], by simp [VR]⟩⟩
  case and =>
    cases a with
    | negSucc _ => cases h
    | ofNat x => cases b with
      | negSucc _ => cases h
      | ofNat y =>
        obtain ⟨hx, h1⟩ := wK_of h
        obtain ⟨hy, h2⟩ := wK_of h1
        rw [fNat_eq] at h2
        have hx := nble_of hx
        have hy := nble_of hy
        refine ⟨_, h2, by simp, by simp, fun φ w t => ⟨.int k (k.wrap ((BitVec.ofInt k.bits (.ofNat x) &&& BitVec.ofInt k.bits (.ofNat y)).toNat : Nat)), by simp [binOp, Op.intBits], ?_⟩⟩
        have : x &&& y ≤ topOf k := and_top k x y hx
        simp only [VR, BitVec.toNat_and, bits_nat k x hx, bits_nat k y hy]
        rw [wrap_in k _ (by omega) (by exact_mod_cast this)]
        rfl
  case or =>
    cases a with
    | negSucc _ => cases h
    | ofNat x => cases b with
      | negSucc _ => cases h
      | ofNat y =>
        obtain ⟨hx, h1⟩ := wK_of h
        obtain ⟨hy, h2⟩ := wK_of h1
        rw [fNat_eq] at h2
        have hx := nble_of hx
        have hy := nble_of hy
        refine ⟨_, h2, by simp, by simp, fun φ w t => ⟨.int k (k.wrap ((BitVec.ofInt k.bits (.ofNat x) ||| BitVec.ofInt k.bits (.ofNat y)).toNat : Nat)), by simp [binOp, Op.intBits], ?_⟩⟩
        have : x ||| y ≤ topOf k := or_top k x y hx hy
        simp only [VR, BitVec.toNat_or, bits_nat k x hx, bits_nat k y hy]
        rw [wrap_in k _ (by omega) (by exact_mod_cast this)]
        rfl
  case andNot =>
    cases a with
    | negSucc _ => cases h
    | ofNat x => cases b with
      | negSucc _ => cases h
      | ofNat y =>
        obtain ⟨hl, h0⟩ := wK_of h
        obtain ⟨hx, h1⟩ := wK_of h0
        obtain ⟨hy, h2⟩ := wK_of h1
        rw [fNat_eq] at h2
        have hl := nbeq_of hl
        have hx := nble_of hx
        have hy := nble_of hy
        refine ⟨_, h2, by simp, by simp, fun φ w t => ⟨.int k (k.wrap ((BitVec.ofInt k.bits (.ofNat x) &&& ~~~ BitVec.ofInt k.bits (.ofNat y)).toNat : Nat)), by simp [binOp, Op.intBits], ?_⟩⟩
        obtain ⟨m, hm, _, hmb⟩ := top_pow k
        have hmb := hmb hl
        have e : 2 ^ k.bits - 1 - y = topOf k - y := by rw [hm, hmb]
        have : x &&& (topOf k - y) ≤ topOf k := and_top k x _ hx
        simp only [VR, BitVec.toNat_and, BitVec.toNat_not, bits_nat k x hx, bits_nat k y hy]
        rw [e, wrap_in k _ (by omega) (by exact_mod_cast this)]
        rfl
  case eql =>
    rw [fB_eq, ieq_eq] at h
    exact ⟨_, h, by simp, by simp, fun φ w t => ⟨.bool (a == b), by simp [binOp, Op.intCmp], by simp [VR]⟩⟩
  case neq =>
    rw [fB_eq, ieq_eq, notB_eq] at h
    exact ⟨_, h, by simp, by simp, fun φ w t => ⟨.bool (a != b), by simp [binOp, Op.intCmp], by simp only [VR]; rfl⟩⟩
  case lss =>
    rw [fB_eq, ile_eq, notB_eq] at h
    exact ⟨_, h, by simp, by simp, fun φ w t => ⟨.bool (decide (a < b)), by simp [binOp, Op.intCmp], by simp only [VR]; congr 1; rw [Bool.eq_iff_iff]; simp⟩⟩
  case leq =>
    rw [fB_eq, ile_eq] at h
    exact ⟨_, h, by simp, by simp, fun φ w t => ⟨.bool (decide (a ≤ b)), by simp [binOp, Op.intCmp], by simp [VR]⟩⟩
  case gtr =>
    rw [fB_eq, ile_eq, notB_eq] at h
    exact ⟨_, h, by simp, by simp, fun φ w t => ⟨.bool (decide (b < a)), by simp [binOp, Op.intCmp], by simp only [VR]; congr 1; rw [Bool.eq_iff_iff]; simp⟩⟩
  case geq =>
    rw [fB_eq, ile_eq] at h
    exact ⟨_, h, by simp, by simp, fun φ w t => ⟨.bool (decide (b ≤ a)), by simp [binOp, Op.intCmp], by simp [VR]⟩⟩
  all_goals cases h

end
end Go.Am
/- Operations that touch no heap are sound: '==' and its kin, strings, fields, places, slices. -/
namespace Go.Am
open Go

section
variable {P : Program}

theorem guard_plain (op : BinOp) (t : TypeId) (x y : Operand) (cx cy : Value) (w : World)
    (h : (∃ k n, cx = .int k n) ∨ (∃ s, cx = .string s)) : (eqGuard op t x y cx cy).run P w = .ok () w := by
  rcases h with ⟨k, n, rfl⟩ | ⟨s, rfl⟩ <;> cases op <;> simp [eqGuard]

theorem eqC_kinds {d : Nat} {t : TypeId} {x y : AV} {k : Bool → Bool} (h : (eqC P d t).run x y k = true) :
    ((∃ i n, x = .i i n) → ∃ i, P.underlying t = some (.int i)) ∧ ((∃ l, x = .s l) → P.underlying t = some .string) ∧
    (x = .nilif → ∃ ms, P.underlying t = some (.interface ms)) ∧ ((∃ l, x = .agg l) → ∃ fs, P.underlying t = some (.struct fs)) ∧ ((∃ l, x = .tup l) → False) := by
  cases d with
  | zero => cases h
  | succ d =>
    unfold eqC at h
    cases hu : P.underlying t with
    | none => rw [hu] at h; cases h
    | some D =>
      rw [hu] at h
      cases D <;> simp only at h <;> (try (cases h; done))
      case bool => obtain ⟨a, rfl, _⟩ := asB_of h; simp
      case int => obtain ⟨i, a, rfl, _⟩ := asI_of h; simp
      case string => obtain ⟨a, rfl, _⟩ := asS_of h; simp
      case pointer e =>
        cases hs : szT P e with
        | none => rw [hs] at h; cases h
        | some n => cases n with
          | zero => rw [hs] at h; cases h
          | succ n =>
            rw [hs] at h
            rcases bK_of h with ⟨_, h0⟩ | ⟨_, h0⟩
            · obtain ⟨a, b, ha, _⟩ := eqNilK_of h0
              cases x <;> simp [nilP] at ha <;> simp
            · obtain ⟨i, o, rfl, _⟩ := asP_of h0; simp
      case interface => obtain ⟨a, b, ha, _⟩ := eqNilK_of h; cases x <;> simp [nilI] at ha <;> simp
      case slice => obtain ⟨a, b, ha, _⟩ := eqNilK_of h; cases x <;> simp [nilS] at ha <;> simp
      case map => obtain ⟨a, b, ha, _⟩ := eqNilK_of h; cases x <;> simp [nilM] at ha <;> simp
      case func => obtain ⟨a, b, ha, _⟩ := eqNilK_of h; cases x <;> simp [nilF] at ha <;> simp
      case struct fs =>
        cases hst : P.stoodInHeld t with
        | true => rw [hst] at h; cases h
        | false => cases hf : fieldEqs (eqC P d) P fs.toList with
          | none => rw [hst, hf] at h; cases h
          | some cs => rw [hst, hf] at h; obtain ⟨a, rfl, _⟩ := asA_of h; simp

/-- what a value of the model is, of what the abstract one is -/
theorem VR_int {φ : Phi} {x : AV} {k : IntKind} {n : Int} (h : VR φ x (.int k n)) : x = .i k n := by
  cases x <;> simp [VR] at h <;> simp [h]
theorem VR_string {φ : Phi} {x : AV} {s : ByteArray} (h : VR φ x (.string s)) : x = .s (bytesOfBA s) := by
  cases x <;> simp [VR] at h <;> simp [h]
theorem VR_nilif {φ : Phi} {x : AV} (h : VR φ x .nilIface) : x = .nilif := by
  cases x <;> simp [VR] at h <;> simp
theorem VR_agg {φ : Phi} {x : AV} {cs : Array Value} (h : VR φ x (.agg cs)) : ∃ l, x = .agg l := by
  cases x <;> simp [VR] at h <;> simp

theorem guard_nil (op : BinOp) (t : TypeId) (x y : Operand) (w : World) (h : (constB x || constB y) = true) : (eqGuard op t x y .nilIface .nilIface).run P w = .ok () w := by
  cases op <;> cases x <;> cases y <;> simp [constB] at h <;> simp [eqGuard]

theorem guard_rest (op : BinOp) (t : TypeId) (x y : Operand) (cx cy : Value) (w : World) (h1 : ¬ (cx = .nilIface ∧ cy = .nilIface)) (h2 : ¬ ((∃ cs, cx = .agg cs) ∧ ∃ ds, cy = .agg ds)) :
    (eqGuard op t x y cx cy).run P w = .ok () w := by
  cases op <;> first
    | rfl
    | (cases cx <;> first
        | rfl
        | (cases cy <;> first | rfl | (exact absurd ⟨rfl, rfl⟩ h1) | (exact absurd ⟨⟨_, rfl⟩, ⟨_, rfl⟩⟩ h2)))

theorem guard_other {op : BinOp} {t : TypeId} {x y : Operand} {a b : AV} {k : Bool → Bool} (hg : guardB P t x y = true) (h : (eqC P 20 t).run a b k = true) {φ : Phi} {cx cy : Value} (hx : VR φ a cx) (_hy : VR φ b cy)
    (w : World) : (eqGuard op t x y cx cy).run P w = .ok () w := by
  obtain ⟨_, _, k3, k4, _⟩ := eqC_kinds h
  by_cases h1 : cx = .nilIface ∧ cy = .nilIface
  · obtain ⟨rfl, rfl⟩ := h1
    obtain ⟨ms, hms⟩ := k3 (VR_nilif hx)
    unfold guardB at hg
    rw [hms] at hg
    exact guard_nil op t x y w hg
  · by_cases h2 : (∃ cs, cx = .agg cs) ∧ (∃ ds, cy = .agg ds)
    · obtain ⟨⟨cs, rfl⟩, ⟨ds, rfl⟩⟩ := h2
      obtain ⟨fs, hfs⟩ := k4 (VR_agg hx)
      unfold guardB at hg
      rw [hfs] at hg
      have : P.eqGuardType P.depth t = false := by simpa using hg
      exact run_eqGuard_agg w op t x y cs ds this
    · exact guard_rest op t x y cx cy w h1 h2

theorem binOp_eql_other {φ : Phi} {t : TypeId} {a : AV} {cx cy : Value} (hx : VR φ a cx) (h1 : ¬ ∃ i n, a = .i i n) (h2 : ¬ ∃ l, a = .s l) :
    binOp .eql t cx cy = (do pure (.bool (← Op.equal t cx cy)) : Sem Value) ∧ binOp .neq t cx cy = (do pure (.bool (!(← Op.equal t cx cy))) : Sem Value) := by
  cases cx <;> first
    | exact ⟨rfl, rfl⟩
    | exact absurd ⟨_, _, VR_int hx⟩ h1
    | exact absurd ⟨_, VR_string hx⟩ h2
    | (exfalso; cases a <;> simp [VR] at hx; done)

theorem llt_eq : ∀ (a b : List Nat) , ∀ (x y : List UInt8), x.map UInt8.toNat = a → y.map UInt8.toNat = b → llt a b = Op.bytesLess x y := by
  intro a
  induction a with
  | nil =>
    intro b x y hx hy
    have : x = [] := by simpa using hx
    subst this
    subst hy
    cases y <;> rfl
  | cons c a ih =>
    intro b x y hx hy
    cases x with
    | nil => cases hx
    | cons u x =>
      simp only [List.map_cons, List.cons.injEq] at hx
      obtain ⟨rfl, rfl⟩ := hx
      cases y with
      | nil => subst hy; rfl
      | cons v y =>
        simp only [List.map_cons] at hy
        subst hy
        show bK (Nat.ble (u.toNat + 1) v.toNat) true (wK (Nat.beq u.toNat v.toNat) (llt (x.map UInt8.toNat) (y.map UInt8.toNat))) = _
        rw [ih (y.map UInt8.toNat) x y rfl rfl]
        simp only [Op.bytesLess]
        have e1 : Nat.ble (u.toNat + 1) v.toNat = decide (u < v) := by
          rw [Bool.eq_iff_iff, decide_eq_true_iff, UInt8.lt_iff_toNat_lt]
          exact ⟨fun h => nble_of h, fun h => Nat.ble_eq_true_of_le h⟩
        have e2 : Nat.beq u.toNat v.toNat = (u == v) := by
          rw [Bool.eq_iff_iff, beq_iff_eq]
          exact ⟨fun h => UInt8.toNat_inj.1 (nbeq_of h), fun h => by subst h; exact Nat.beq_refl _⟩
        rw [e1, e2]
        cases decide (u < v) <;> cases (u == v) <;> rfl

theorem astr_of {op : BinOp} {a b : List Nat} {c : AV → Bool} (h : astrC op a b c = true) :
    ∃ v, c v = true ∧ ∀ (φ : Phi) (w : World) (t : TypeId) (s u : ByteArray), bytesOfBA s = a → bytesOfBA u = b → ∃ cv, (binOp op t (.string s) (.string u)).run P w = .ok cv w ∧ VR φ v cv := by
  have e : ∀ u : ByteArray, u.toList = u.data.toList := fun u => by rw [ByteArray.toList_eq]
  cases op <;> simp only [astrC] at h <;> (try (cases h; done))
  case add =>
    obtain ⟨h0, h1⟩ := wK_of h
    have h0 := nble_of h0
    refine ⟨_, appK_of h1, fun φ w t s u hs hu => ⟨.string (s ++ u), ?_, ?_⟩⟩
    · subst hs hu
      rw [lenN_eq, lenN_eq] at h0
      simp only [bytesOfBA, List.length_map, Array.length_toList] at h0
      have : ¬ ((s.size + u.size : Nat) : Int) > IntKind.i64.max := by
        have e1 : s.size = s.data.size := rfl
        have e2 : u.size = u.data.size := rfl
        simp [IntKind.max, IntKind.signed, IntKind.bits]
        omega
      simp only [binOp, Op.stringOp]
      rw [if_neg this]
      rfl
    · simp only [VR]
      exact ⟨_, rfl, by subst hs hu; simp [bytesOfBA]⟩
  case eql =>
    rw [fB_eq, leq_eq] at h
    refine ⟨_, h, fun φ w t s u hs hu => ⟨.bool (s.toList == u.toList), by simp [binOp, Op.stringOp], ?_⟩⟩
    simp only [VR]
    subst hs hu
    rw [bytes_beq]
  case neq =>
    rw [fB_eq, leq_eq, notB_eq] at h
    refine ⟨_, h, fun φ w t s u hs hu => ⟨.bool (!(s.toList == u.toList)), by simp [binOp, Op.stringOp], ?_⟩⟩
    simp only [VR]
    subst hs hu
    rw [bytes_beq]
  case lss =>
    rw [fB_eq] at h
    refine ⟨_, h, fun φ w t s u hs hu => ⟨.bool (Op.bytesLess s.toList u.toList), by simp [binOp, Op.stringOp], ?_⟩⟩
    simp only [VR]
    rw [llt_eq a b s.data.toList u.data.toList hs hu, e, e]

theorem binC_ok (op : BinOp) (t : TypeId) (x y : Operand) (u : TypeId) : PureOk P (.binOp op t x y u) (binC P op t x y) := by
  unfold binC
  cases hu : P.underlying t with
  | none => exact pureBad_ok _
  | some D =>
    by_cases hi : ∃ i, D = .int i
    · obtain ⟨i, rfl⟩ := hi
      by_cases hs : op = .shl
      · subst hs
        intro vs k h
        obtain ⟨a, b, r, rfl, h1⟩ := duo_of h
        obtain ⟨kk, n, rfl, h2⟩ := asI_of h1
        obtain ⟨j, m, rfl, h3⟩ := asI_of h2
        obtain ⟨h0, h4⟩ := wK_of h3
        rw [fNat_eq] at h4
        rw [ile_eq] at h0
        have h0 : 0 ≤ m := by simpa using h0
        refine ⟨_, wrapK_of h4, fun φ ρ o w ho hr => ⟨.int kk (kk.wrap (n * 2 ^ (min m.toNat kk.bits))), ?_, by simp [VR]⟩⟩
        obtain ⟨r1, r2⟩ := vrs2 hr
        simp only [VR] at r1 r2
        simp [execOp, ho, r1, r2, guard_plain .shl t x y (.int kk n) (.int j m) w (.inl ⟨_, _, rfl⟩), binOp, Op.shift, Int.not_lt.2 h0]
      · by_cases hs' : op = .shr
        · subst hs'
          intro vs k h
          obtain ⟨a, b, r, rfl, h1⟩ := duo_of h
          obtain ⟨kk, n, rfl, h2⟩ := asI_of h1
          obtain ⟨j, m, rfl, h3⟩ := asI_of h2
          obtain ⟨h0, h4⟩ := wK_of h3
          rw [fNat_eq, fInt_eq] at h4
          rw [ile_eq] at h0
          have h0 : 0 ≤ m := by simpa using h0
          refine ⟨_, h4, fun φ ρ o w ho hr => ⟨.int kk (n.fdiv (2 ^ (min m.toNat kk.bits))), ?_, by simp [VR]⟩⟩
          obtain ⟨r1, r2⟩ := vrs2 hr
          simp only [VR] at r1 r2
          simp [execOp, ho, r1, r2, guard_plain .shr t x y (.int kk n) (.int j m) w (.inl ⟨_, _, rfl⟩), binOp, Op.shift, Int.not_lt.2 h0]
        · intro vs k h
          have h' : duo vs (fun a b => asI a fun k' n => asI b fun j m => wK (kindEq k' j) (aintC op k' n m k)) = true := by
            cases op <;> first | exact absurd rfl hs | exact absurd rfl hs' | exact h
          obtain ⟨a, b, r, rfl, h1⟩ := duo_of h'
          obtain ⟨kk, n, rfl, h2⟩ := asI_of h1
          obtain ⟨j, m, rfl, h3⟩ := asI_of h2
          obtain ⟨h0, h4⟩ := wK_of h3
          have := kindEq_of h0
          subst this
          obtain ⟨v, hv, _, _, hrun⟩ := aint_of (P := P) h4
          refine ⟨v, hv, fun φ ρ o w ho hr => ?_⟩
          obtain ⟨r1, r2⟩ := vrs2 hr
          simp only [VR] at r1 r2
          obtain ⟨cv, e, hvr⟩ := hrun φ w t
          exact ⟨cv, by simp [execOp, ho, r1, r2, guard_plain op t x y (.int kk n) (.int kk m) w (.inl ⟨_, _, rfl⟩), e], hvr⟩
    · by_cases hs : D = .string
      · subst hs
        intro vs k h
        obtain ⟨a, b, r, rfl, h1⟩ := duo_of h
        obtain ⟨l, rfl, h2⟩ := asS_of h1
        obtain ⟨m, rfl, h3⟩ := asS_of h2
        obtain ⟨v, hv, hrun⟩ := astr_of (P := P) h3
        refine ⟨v, hv, fun φ ρ o w ho hr => ?_⟩
        obtain ⟨r1, r2⟩ := vrs2 hr
        simp only [VR] at r1 r2
        obtain ⟨s1, e1, f1⟩ := r1
        obtain ⟨s2, e2, f2⟩ := r2
        obtain ⟨cv, e, hvr⟩ := hrun φ w t s1 s2 f1 f2
        exact ⟨cv, by simp [execOp, ho, e1, e2, guard_plain op t x y (.string s1) (.string s2) w (.inr ⟨_, rfl⟩), e], hvr⟩
      · cases hg : guardB P t x y with
        | false => cases D <;> first | exact absurd ⟨_, rfl⟩ hi | exact absurd rfl hs | (simp only; exact pureBad_ok _)
        | true =>
          have key : ∀ (neg : Bool) vs k, duo vs (fun a b => (eqC P 20 t).run a b fun r => fB (bK neg (notB r) r) k) = true →
              ∃ v, k v = true ∧ ∀ (φ : Phi) (ρ : Operand → Value) (o : Oper) (w : World), o.op = .binOp (if neg then .neq else .eql) t x y u →
                VRs φ vs [ρ x, ρ y] → ∃ cv, (execOp ρ o).run P w = .ok (.value cv) w ∧ VR φ v cv := by
            intro neg vs k h
            obtain ⟨a, b, r, rfl, h1⟩ := duo_of h
            obtain ⟨q, hq, hrun⟩ := eqC_ok (P := P) 20 t a b _ h1
            rw [fB_eq] at hq
            obtain ⟨k1, k2, _⟩ := eqC_kinds h1
            refine ⟨_, hq, fun φ ρ o w ho hr => ?_⟩
            obtain ⟨r1, r2⟩ := vrs2 hr
            have g := guard_other (op := if neg then .neq else .eql) hg h1 r1 r2 w
            have n1 : ¬ ∃ i n, a = .i i n := fun e => by
              obtain ⟨i, ei⟩ := k1 e
              rw [hu] at ei
              injection ei with ei
              exact hi ⟨i, ei⟩
            have n2 : ¬ ∃ l, a = .s l := fun e => by
              have ei := k2 e
              rw [hu] at ei
              injection ei with ei
              exact hs ei
            obtain ⟨b1, b2⟩ := binOp_eql_other (t := t) (cy := ρ y) r1 n1 n2
            have e := hrun φ (ρ x) (ρ y) 10000 w r1 r2 (by decide)
            cases neg with
            | false => exact ⟨.bool q, by simp at g; simp [execOp, ho, g, b1, Op.equal, Op.maxDepth, e], by simp [VR, bK]⟩
            | true => exact ⟨.bool (!q), by simp at g; simp [execOp, ho, g, b2, Op.equal, Op.maxDepth, e], by simp [VR, bK, notB_eq]⟩
          cases D <;> first
            | exact absurd ⟨_, rfl⟩ hi
            | exact absurd rfl hs
            | (simp only
               cases op <;> first
                | exact pureBad_ok _
                | (intro vs k h; exact key false vs k h)
                | (intro vs k h; exact key true vs k h))

end
end Go.Am
/- Operations that touch no heap are sound: literals, fields, places, slices, conversions; and all of them together. -/
namespace Go.Am
open Go

section
variable {P : Program}

/-! laying parts into a literal -/
theorem foldl_lay : ∀ (l : List Value) (s off : Nat) (cs : Array Value), off + s + l.length ≤ cs.size →
    ((l.zipIdx s).foldl (fun cs (x : Value × Nat) => cs.setIfInBounds (off + x.2) x.1) cs).toList = cs.toList.take (off + s) ++ (l ++ cs.toList.drop (off + s + l.length)) := by
  intro l
  induction l with
  | nil => intro s off cs h; simp
  | cons v l ih =>
    intro s off cs h
    simp only [List.length_cons] at h
    simp only [List.zipIdx_cons, List.foldl_cons]
    rw [ih (s + 1) off _ (by simp; omega)]
    have hlt : off + s < cs.toList.length := by simp; omega
    simp only [Array.toList_setIfInBounds, List.length_cons]
    rw [show off + (s + 1) = off + s + 1 from by omega, List.take_succ_eq_append_getElem (by simpa using hlt), List.take_set_of_le (Nat.le_refl _)]
    rw [List.drop_set_of_lt (by omega)]
    simp [show off + s + 1 + l.length = off + s + (l.length + 1) from by omega]

theorem flat_append {a b : List AV} (h1 : ∀ x ∈ a, x.flat = true) (h2 : ∀ x ∈ b, x.flat = true) : ∀ x ∈ a ++ b, x.flat = true :=
  fun x hx => (List.mem_append.1 hx).elim (h1 x) (h2 x)

theorem VR_flat_cells {φ : Phi} {x : AV} {v : Value} (h : VR φ x v) (hf : x.flat = true) : v.cells = #[v] := by
  cases x <;> simp [AV.flat] at hf <;> simp only [VR] at h
  case s => obtain ⟨_, rfl, _⟩ := h; rfl
  case ptr => obtain ⟨_, _, _, _, rfl⟩ := h; rfl
  case sl => obtain ⟨_, _, _, _, _, _, rfl, _⟩ := h; rfl
  case mp => obtain ⟨_, _, _, _, rfl⟩ := h; rfl
  case fn => obtain ⟨_, _, rfl, _⟩ := h; rfl
  case ifc => obtain ⟨_, rfl, _⟩ := h; rfl
  all_goals (subst h; rfl)

theorem VR_flat_one {φ : Phi} {x : AV} {v : Value} (h : VR φ x v) (hf : x.flat = true) : v.oneCell' = true := by
  cases x <;> simp [AV.flat] at hf <;> simp only [VR] at h
  case s => obtain ⟨_, rfl, _⟩ := h; rfl
  case ptr => obtain ⟨_, _, _, _, rfl⟩ := h; rfl
  case sl => obtain ⟨_, _, _, _, _, _, rfl, _⟩ := h; rfl
  case mp => obtain ⟨_, _, _, _, rfl⟩ := h; rfl
  case fn => obtain ⟨_, _, rfl, _⟩ := h; rfl
  case ifc => obtain ⟨_, rfl, _⟩ := h; rfl
  all_goals (subst h; rfl)

/-- a value's cells -/
theorem cellsV_VR {v : AV} {c : List AV → Bool} (h : cellsV v c = true) : ∃ l, c l = true ∧ ∀ (φ : Phi) (cv : Value), VR φ v cv → VRs φ l cv.cells.toList ∧ ∀ x ∈ l, x.flat = true := by
  rcases cellsV_of h with ⟨l, rfl, h1⟩ | ⟨hf, h1⟩
  · refine ⟨l, h1, fun φ cv hr => ?_⟩
    simp only [VR] at hr
    obtain ⟨cs, rfl, r1, r2⟩ := hr
    exact ⟨r1, r2⟩
  · refine ⟨[v], h1, fun φ cv hr => ⟨?_, by simpa using hf⟩⟩
    rw [VR_flat_cells hr hf]
    exact VRs.cons hr VRs.nil

theorem fillK_of (place : Nat → Option (Nat × Nat)) : ∀ (ps : List (Nat × Operand)) (pl : List (Nat × Nat)), pl.length = ps.length → (∀ (j : Nat) (p : Nat × Operand) (q : Nat × Nat), ps[j]? = some p → pl[j]? = some q → place p.1 = some q) →
    ∀ (cells : List AV) (vs : List AV) (k : List AV → Bool), fillK cells pl vs k = true → ∃ cs, k cs = true ∧ ∀ (φ : Phi) (ρ : Operand → Value) (cc : Array Value),
      VRs φ cells cc.toList → (∀ x ∈ cells, x.flat = true) → VRs φ vs (ps.map fun p => ρ p.2) →
        ∃ r, Instr.fill place cc (ps.map fun p => (p.1, ρ p.2)) = some r ∧ VRs φ cs r.toList ∧ ∀ x ∈ cs, x.flat = true := by
  intro ps
  induction ps with
  | nil =>
    intro pl hl _ cells vs k h
    have : pl = [] := List.length_eq_zero_iff.1 hl
    subst this
    exact ⟨cells, h, fun φ ρ cc r1 r2 _ => ⟨cc, rfl, r1, r2⟩⟩
  | cons p ps ih =>
    intro pl hl hp cells vs k h
    cases pl with
    | nil => simp at hl
    | cons q pl =>
      have hq := hp 0 p q (by simp) (by simp)
      have h' : hd vs (fun v r => cellsV v fun xs => wK (Nat.beq (lenN xs) q.2) (layK cells q.1 xs fun cs => fillK cs pl r k)) = true := h
      obtain ⟨v, r, rfl, h1⟩ := hd_of h'
      obtain ⟨l, h2, hc⟩ := cellsV_VR h1
      obtain ⟨h3, h4⟩ := wK_of h2
      have h3 := nbeq_of h3
      rw [lenN_eq] at h3
      obtain ⟨h5, h6⟩ := layK_of h4
      obtain ⟨cs, hk, hrun⟩ := ih pl (by simpa using hl) (fun j p q e1 e2 => hp (j + 1) p q (by simpa using e1) (by simpa using e2)) _ r k h6
      refine ⟨cs, hk, fun φ ρ cc r1 r2 r3 => ?_⟩
      obtain ⟨u, us, e, r4, r5⟩ := r3.uncons
      simp only [List.map_cons, List.cons.injEq] at e
      obtain ⟨rfl, rfl⟩ := e
      obtain ⟨r6, r7⟩ := hc φ (ρ p.2) r4
      have len1 := r6.length
      have len2 := r1.length
      simp only [Array.length_toList] at len1 len2
      have hfold := foldl_lay (ρ p.2).cells.toList 0 q.1 cc (by simp only [Array.length_toList]; omega)
      obtain ⟨rr, e1, e2, e3⟩ := hrun φ ρ ((ρ p.2).cells.zipIdx.foldl (fun cs x => cs.setIfInBounds (q.1 + x.2) x.1) cc) (by
        rw [← Array.foldl_toList, Array.toList_zipIdx, hfold]
        simp only [Nat.add_zero, Array.length_toList]
        rw [← len1]
        exact VRs.append (VRs.take _ r1) (VRs.append r6 (VRs.drop _ r1)))
        (flat_append (fun x hx => r2 x (List.mem_of_mem_take hx)) (flat_append r7 fun x hx => r2 x (List.mem_of_mem_drop hx))) r5
      refine ⟨rr, ?_, e2, e3⟩
      simp only [List.map_cons, Instr.fill, hq]
      rw [if_neg (by simp only [ne_eq, Bool.or_eq_true, decide_eq_true_eq]; omega)]
      exact e1

theorem fieldPlaces_of (fs : Array Field) : ∀ (ps : List (Nat × Operand)) (pl : List (Nat × Nat)), fieldPlaces P fs ps = some pl →
    pl.length = ps.length ∧ ∀ (j : Nat) (p : Nat × Operand) (q : Nat × Nat), ps[j]? = some p → pl[j]? = some q → ∃ f : Field, fs[p.1]? = some f ∧ szT P f.type = some q.2 ∧ f.offset = q.1 := by
  intro ps
  induction ps with
  | nil => intro pl h; simp [fieldPlaces] at h; subst h; simp
  | cons p ps ih =>
    intro pl h
    obtain ⟨j, x⟩ := p
    simp only [fieldPlaces] at h
    cases hf : fs[j]? with
    | none => rw [hf] at h; cases h
    | some f =>
      rw [hf] at h
      simp only at h
      cases hn : szT P f.type with
      | none => rw [hn] at h; cases h
      | some n => cases hr : fieldPlaces P fs ps with
        | none => rw [hn, hr] at h; cases h
        | some r =>
          rw [hn, hr] at h
          simp at h
          subst h
          obtain ⟨e1, e2⟩ := ih r hr
          refine ⟨by simp [e1], fun i p q h1 h2 => ?_⟩
          cases i with
          | zero => simp at h1 h2; subst h1 h2; exact ⟨f, hf, hn, rfl⟩
          | succ i => exact e2 i p q (by simpa using h1) (by simpa using h2)

theorem elemPlaces_of (n : Nat) : ∀ (ps : List (Nat × Operand)), (elemPlaces n ps).length = ps.length ∧ ∀ (j : Nat) (p : Nat × Operand) (q : Nat × Nat), ps[j]? = some p → (elemPlaces n ps)[j]? = some q → q = (p.1 * n, n) := by
  intro ps
  induction ps with
  | nil => exact ⟨rfl, by simp⟩
  | cons p ps ih =>
    obtain ⟨j, x⟩ := p
    refine ⟨by simp [elemPlaces, ih.1], fun i p q h1 h2 => ?_⟩
    cases i with
    | zero => simp [elemPlaces] at h1 h2; subst h1 h2; rfl
    | succ i => exact ih.2 i p q (by simpa using h1) (by simpa [elemPlaces] using h2)

/-- the places that a struct's literal goes by -/
def placesOf (P : Program) (fs : Array Field) : Array (Nat × Nat) := (fs.toList.map fun f => (f.offset, (szT P f.type).getD 0)).toArray

theorem run_places (fs : Array Field) (w : World) (hall : ∀ (f : Field), f ∈ fs.toList → (szT P f.type).isSome = true) :
    (fs.mapM (m := Sem) fun f => do pure (f.offset, ← sizeOf f.type)).run P w = .ok (placesOf P fs) w := by
  have key : ∀ (l : List Field), (∀ f ∈ l, (szT P f.type).isSome = true) → (l.mapM (m := Sem) fun f => do pure (f.offset, ← sizeOf f.type)).run P w = .ok (l.map fun f => (f.offset, (szT P f.type).getD 0)) w := by
    intro l
    induction l with
    | nil => intro _; simp
    | cons f l ih =>
      intro hl
      obtain ⟨n, hn⟩ := Option.isSome_iff_exists.1 (hl f (by simp))
      have h1 := ih fun g hg => hl g (by simp [hg])
      rw [List.mapM_cons]
      simp only [Sem.run_bind, run_sizeOf_of hn, Result.andThen_ok, Sem.run_pure] at h1 ⊢
      rw [h1]
      simp [hn]
  rw [Array.mapM_eq_mapM_toList]
  simp only [Sem.run_map, key fs.toList hall, Result.andThen_ok]
  rfl

theorem placesOf_get {fs : Array Field} {j : Nat} {f : Field} {n : Nat} (hf : fs[j]? = some f) (hn : szT P f.type = some n) : (placesOf P fs)[j]? = some (f.offset, n) := by
  have : fs.toList[j]? = some f := by simpa using hf
  simp only [placesOf, List.getElem?_toArray, List.getElem?_map, this, Option.map_some, hn, Option.getD_some]

theorem map_snd_toList (ps : Array (Nat × Operand)) (ρ : Operand → Value) : ((ps.map fun (i, x) => (i, ρ x)).toList : List (Nat × Value)) = ps.toList.map fun p => (p.1, ρ p.2) := by
  rw [Array.toList_map]

theorem build_ok (t : TypeId) (ps : Array (Nat × Operand)) : PureOk P (.build t ps) (pureC P (.build t ps)) := by
  unfold pureC
  simp only
  cases hz : zeroCellsT P t with
  | none => exact pureBad_ok _
  | some z =>
    cases hu : P.underlying t with
    | none => exact pureBad_ok _
    | some D =>
      cases D <;> simp only <;> try exact pureBad_ok _
      case struct fs =>
        cases hall : fs.toList.all (fun f => (szT P f.type).isSome) with
        | false => exact pureBad_ok _
        | true => cases hp : fieldPlaces P fs ps.toList with
          | none => exact pureBad_ok _
          | some pl =>
            intro vs k h
            obtain ⟨e1, e2⟩ := fieldPlaces_of fs ps.toList pl hp
            have hall' : ∀ (f : Field), f ∈ fs.toList → (szT P f.type).isSome = true := fun f hf => List.all_eq_true.1 hall f hf
            obtain ⟨cs, hk, hrun⟩ := fillK_of (fun j => (placesOf P fs)[j]?) ps.toList pl e1 (fun j p q h1 h2 => by
              obtain ⟨f, hf, hn, ho⟩ := e2 j p q h1 h2
              rw [placesOf_get hf hn, ho]) z vs _ h
            refine ⟨_, hk, fun φ ρ o w ho hr => ?_⟩
            obtain ⟨zv, ez, rz, fz⟩ := run_zeroCells_of (φ := φ) hz w
            obtain ⟨r, er, rr, fr⟩ := hrun φ ρ zv.cells rz fz (by simpa [Op.operands, Function.comp_def] using hr)
            have ea := run_places (P := P) fs w hall'
            refine ⟨.agg r, ?_, by simp only [VR]; exact ⟨r, rfl, rr, fr⟩⟩
            simp only [execOp, ho]
            apply exec_v
            simp only [Instr.build, Sem.run_bind, ez, Result.andThen_ok, run_underlying hu]
            rw [ea]
            simp only [Result.andThen_ok, map_snd_toList, er]
            rfl
      case array m e =>
        cases hn : szT P e with
        | none => exact pureBad_ok _
        | some n =>
          intro vs k h
          obtain ⟨e1, e2⟩ := elemPlaces_of n ps.toList
          obtain ⟨cs, hk, hrun⟩ := fillK_of (fun i => some (i * n, n)) ps.toList (elemPlaces n ps.toList) e1 (fun j p q h1 h2 => by rw [e2 j p q h1 h2]) z vs _ h
          refine ⟨_, hk, fun φ ρ o w ho hr => ?_⟩
          obtain ⟨zv, ez, rz, fz⟩ := run_zeroCells_of (φ := φ) hz w
          obtain ⟨r, er, rr, fr⟩ := hrun φ ρ zv.cells rz fz (by simpa [Op.operands, Function.comp_def] using hr)
          refine ⟨.agg r, ?_, by simp only [VR]; exact ⟨r, rfl, rr, fr⟩⟩
          simp only [execOp, ho]
          apply exec_v
          simp only [Instr.build, Sem.run_bind, ez, Result.andThen_ok, run_underlying hu, run_sizeOf_of hn, map_snd_toList, er]
          rfl

end
end Go.Am
