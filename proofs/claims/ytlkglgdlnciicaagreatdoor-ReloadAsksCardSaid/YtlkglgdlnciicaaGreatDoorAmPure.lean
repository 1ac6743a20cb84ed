/- Operations that touch no heap: what the abstract machine reckons is what the model's operation yields. -/
import Derived.Test.YtlkglgdlnciicaaGreatDoorAmRel
import Derived.Laws.Sem
import Derived.Laws.Entries
import Derived.Laws.StructEq
set_option linter.all false
namespace Go.Am
open Go

section
variable {P : Program} {φ : Phi}

theorem run_isAgg_of {t : TypeId} {a : Bool} (h : isAggT P t = some a) (w : World) : (isAgg t).run P w = .ok a w := by
  unfold isAggT at h
  unfold isAgg
  cases hu : P.underlying t with
  | none => rw [hu] at h; cases h
  | some d =>
    rw [hu] at h
    simp only [Sem.run_bind, run_underlying hu, Result.andThen_ok]
    cases d <;> simp at h <;> subst h <;> rfl

theorem run_sizeOf_of {t : TypeId} {n : Nat} (h : szT P t = some n) (w : World) : (sizeOf t).run P w = .ok n w := by
  unfold szT at h
  cases hi : P.info? t with
  | none => rw [hi] at h; cases h
  | some i =>
    rw [hi] at h
    simp at h
    simp [sizeOf, typeInfo, hi, h]

theorem run_typeInfo_of {t : TypeId} {i : TypeInfo} (h : P.info? t = some i) (w : World) : (typeInfo t).run P w = .ok i w := by
  simp [typeInfo, h]

theorem bytesT_of {t : TypeId} {n : Nat} (h : bytesT P t = some n) : ∃ i, P.info? t = some i ∧ i.bytes = n := by
  unfold bytesT at h
  cases hi : P.info? t with
  | none => rw [hi] at h; cases h
  | some i => rw [hi] at h; simp at h; exact ⟨i, rfl, h⟩

theorem ofScalar_VR {v : Value} {a : AV} (h : ofScalar v = some a) : VR φ a v ∧ a.flat = true := by
  unfold ofScalar at h
  split at h <;> (try cases h) <;> simp [VR, AV.flat]

theorem ofScalars_VRs : ∀ {vs : List Value} {l : List AV}, ofScalars vs = some l → VRs φ l vs ∧ ∀ x ∈ l, x.flat = true := by
  intro vs
  induction vs with
  | nil => intro l h; simp [ofScalars] at h; subst h; exact ⟨VRs.nil, by simp⟩
  | cons v vs ih =>
    intro l h
    simp only [ofScalars] at h
    cases h1 : ofScalar v with
    | none => rw [h1] at h; cases h
    | some a =>
      cases h2 : ofScalars vs with
      | none => rw [h1, h2] at h; cases h
      | some as =>
        rw [h1, h2] at h
        simp at h
        subst h
        obtain ⟨r1, f1⟩ := ofScalar_VR (φ := φ) h1
        obtain ⟨r2, f2⟩ := ih h2
        exact ⟨VRs.cons r1 r2, by simpa using ⟨f1, f2⟩⟩

theorem ofV_VR {v : Value} {a : AV} (h : ofV v = some a) : VR φ a v := by
  unfold ofV at h
  split at h
  · rename_i cs
    split at h
    · rename_i l hl
      injection h with h
      subst h
      obtain ⟨r, f⟩ := ofScalars_VRs (φ := φ) hl
      simp only [VR]
      exact ⟨cs, rfl, r, f⟩
    · cases h
  · rename_i cs
    split at h
    · rename_i hl
      injection h with h
      subst h
      simp only [VR]
      exact ⟨cs, rfl, by rw [hl]; exact VRs.nil⟩
    · cases h
  · exact (ofScalar_VR h).1

theorem run_zero_of {t : TypeId} {z : AV} (h : zeroT P t = some z) (w : World) : ∃ v, (zeroValue t).run P w = .ok v w ∧ VR φ z v := by
  unfold zeroT at h
  cases hi : P.info? t with
  | none => rw [hi] at h; cases h
  | some i =>
    rw [hi] at h
    simp only at h
    cases hz : i.zero with
    | none => rw [hz] at h; cases h
    | some v =>
      rw [hz] at h
      exact ⟨v, by simp [zeroValue, typeInfo, hi, hz], ofV_VR h⟩

theorem run_zeroCells_of {t : TypeId} {z : List AV} (h : zeroCellsT P t = some z) (w : World) :
    ∃ v, (zeroValue t).run P w = .ok v w ∧ VRs φ z v.cells.toList ∧ ∀ x ∈ z, x.flat = true := by
  unfold zeroCellsT at h
  cases hi : P.info? t with
  | none => rw [hi] at h; cases h
  | some i =>
    rw [hi] at h
    simp only at h
    cases hz : i.zero with
    | none => rw [hz] at h; cases h
    | some v =>
      rw [hz] at h
      exact ⟨v, by simp [zeroValue, typeInfo, hi, hz], ofScalars_VRs h⟩

theorem flat_take {l : List AV} (h : ∀ x ∈ l, x.flat = true) (a n : Nat) : ∀ x ∈ (l.drop a).take n, x.flat = true :=
  fun x hx => h x (List.mem_of_mem_drop (List.mem_of_mem_take hx))

/-- a part of a value -/
theorem run_part_of {t : TypeId} {a : Bool} {n : Nat} (ha : isAggT P t = some a) (hn : szT P t = some n) {cs : List AV} {vs : Array Value} (hr : VRs φ cs vs.toList) (hf : ∀ x ∈ cs, x.flat = true)
    {off : Nat} {k : AV → Bool} (h : partK a n cs off k = true) : ∃ v, k v = true ∧ (a = false → v.flat = true) ∧ ∀ w, ∃ cv, (part t vs off).run P w = .ok cv w ∧ VR φ v cv := by
  rcases partK_of h with ⟨rfl, hle, hk⟩ | ⟨rfl, v, hv, hk⟩
  · refine ⟨_, hk, by simp, fun w => ⟨.agg (vs.extract off (off + n)), ?_, ?_⟩⟩
    · simp [part, run_isAgg_of ha, run_sizeOf_of hn]
    · simp only [VR]
      refine ⟨_, rfl, ?_, flat_take hf _ _⟩
      have := VRs.take n (VRs.drop off hr)
      simpa [Array.toList_extract, List.extract_eq_take_drop] using this
  · obtain ⟨cv, hcv, hvr⟩ := VRs.get hr hv
    refine ⟨v, hk, fun _ => hf v (List.mem_of_getElem? hv), fun w => ⟨cv, ?_, hvr⟩⟩
    have : vs[off]? = some cv := by simpa using hcv
    simp [part, run_isAgg_of ha, this]

/-- the same, of two runs of one part: the abstract value is one -/
theorem run_part_at {t : TypeId} {a : Bool} {n : Nat} (ha : isAggT P t = some a) (hn : szT P t = some n) {cs : List AV} {vs : Array Value} (hr : VRs φ cs vs.toList) (hf : ∀ x ∈ cs, x.flat = true)
    {off : Nat} {v : AV} (h : (a = true ∧ off + n ≤ cs.length ∧ v = .agg ((cs.drop off).take n)) ∨ (a = false ∧ cs[off]? = some v)) (w : World) :
    ∃ cv, (part t vs off).run P w = .ok cv w ∧ VR φ v cv := by
  rcases h with ⟨rfl, hle, rfl⟩ | ⟨rfl, hv⟩
  · refine ⟨.agg (vs.extract off (off + n)), by simp [part, run_isAgg_of ha, run_sizeOf_of hn], ?_⟩
    simp only [VR]
    refine ⟨_, rfl, ?_, flat_take hf _ _⟩
    have := VRs.take n (VRs.drop off hr)
    simpa [Array.toList_extract, List.extract_eq_take_drop] using this
  · obtain ⟨cv, hcv, hvr⟩ := VRs.get hr hv
    have : vs[off]? = some cv := by simpa using hcv
    exact ⟨cv, by simp [part, run_isAgg_of ha, this], hvr⟩

end
end Go.Am
/- Equality of values of a type, the guard ahead of it, arithmetic, comparisons. -/
namespace Go.Am
open Go

section
variable {P : Program} {φ : Phi}

theorem bytes_inj {s t : ByteArray} (h : bytesOfBA s = bytesOfBA t) : s = t := by
  obtain ⟨⟨x⟩⟩ := s
  obtain ⟨⟨y⟩⟩ := t
  unfold bytesOfBA at h
  simp only at h
  have : x = y := by
    apply List.map_inj_right (f := UInt8.toNat) (fun a b e => UInt8.toNat_inj.1 e) |>.1 h
  subst this
  rfl

theorem bytes_beq (s t : ByteArray) : (s.toList == t.toList) = (bytesOfBA s == bytesOfBA t) := by
  have e : ∀ u : ByteArray, u.toList = u.data.toList := fun u => by rw [ByteArray.toList_eq]
  rw [Bool.eq_iff_iff, beq_iff_eq, beq_iff_eq, e, e]
  exact ⟨fun h => by unfold bytesOfBA; rw [h], fun h => by rw [bytes_inj h]⟩

/-- what is told of the equality of two values: of every two that read so -/
def EqSays (P : Program) (t : TypeId) (x y : AV) (r : Bool) : Prop :=
  ∀ (φ : Phi) (cx cy : Value) (D : Nat) (w : World), VR φ x cx → VR φ y cy → 30 ≤ D → (Op.equalIn D t cx cy).run P w = .ok r w

def EqOk (P : Program) (d : Nat) (t : TypeId) (f : EqC) : Prop :=
  ∀ x y k, f.run x y k = true → ∃ r, k r = true ∧ ∀ (φ : Phi) (cx cy : Value) (D : Nat) (w : World), VR φ x cx → VR φ y cy → d ≤ D → (Op.equalIn D t cx cy).run P w = .ok r w

theorem eqBad_ok (d : Nat) (t : TypeId) : EqOk P d t eqBad := fun _ _ _ h => by cases h

theorem eqNilK_of {isNil : AV → Option Bool} {x y : AV} {k : Bool → Bool} (h : eqNilK isNil x y k = true) :
    ∃ a b, isNil x = some a ∧ isNil y = some b ∧ (a = true ∨ b = true) ∧ k (a && b) = true := by
  obtain ⟨a, ea, h1⟩ := oK_of h
  obtain ⟨b, eb, h2⟩ := oK_of h1
  cases a with
  | true => exact ⟨true, b, ea, eb, .inl rfl, by simpa [bK] using h2⟩
  | false => cases b with
    | true => exact ⟨false, true, ea, eb, .inr rfl, h2⟩
    | false => cases h2

theorem eqNil_ptr {t e : TypeId} (ht : P.underlying t = some (.pointer e)) {x y : AV} {a b : Bool} (ha : nilP x = some a) (hb : nilP y = some b) (hab : a = true ∨ b = true)
    {cx cy : Value} (hx : VR φ x cx) (hy : VR φ y cy) (D : Nat) (w : World) : (Op.equalIn (D + 1) t cx cy).run P w = .ok (a && b) w := by
  cases x <;> simp [nilP] at ha <;> cases y <;> simp [nilP] at hb <;> subst ha hb <;> simp only [VR] at hx hy
  · subst hx hy; simp [Op.equalIn, run_underlying ht]
  · obtain ⟨_, _, _, _, rfl⟩ := hy; subst hx; simp [Op.equalIn, run_underlying ht]
  · obtain ⟨_, _, _, _, rfl⟩ := hx; subst hy; simp [Op.equalIn, run_underlying ht]
  · simp at hab
theorem eqNil_slice {t e : TypeId} (ht : P.underlying t = some (.slice e)) {x y : AV} {a b : Bool} (ha : nilS x = some a) (hb : nilS y = some b) (hab : a = true ∨ b = true)
    {cx cy : Value} (hx : VR φ x cx) (hy : VR φ y cy) (D : Nat) (w : World) : (Op.equalIn (D + 1) t cx cy).run P w = .ok (a && b) w := by
  cases x <;> simp [nilS] at ha <;> cases y <;> simp [nilS] at hb <;> subst ha hb <;> simp only [VR] at hx hy
  · subst hx hy; simp [Op.equalIn, run_underlying ht]
  · obtain ⟨_, _, _, _, _, _, rfl, _⟩ := hy; subst hx; simp [Op.equalIn, run_underlying ht]
  · obtain ⟨_, _, _, _, _, _, rfl, _⟩ := hx; subst hy; simp [Op.equalIn, run_underlying ht]
  · simp at hab
theorem eqNil_map {t e f : TypeId} (ht : P.underlying t = some (.map e f)) {x y : AV} {a b : Bool} (ha : nilM x = some a) (hb : nilM y = some b) (hab : a = true ∨ b = true)
    {cx cy : Value} (hx : VR φ x cx) (hy : VR φ y cy) (D : Nat) (w : World) : (Op.equalIn (D + 1) t cx cy).run P w = .ok (a && b) w := by
  cases x <;> simp [nilM] at ha <;> cases y <;> simp [nilM] at hb <;> subst ha hb <;> simp only [VR] at hx hy
  · subst hx hy; simp [Op.equalIn, run_underlying ht]
  · obtain ⟨_, _, _, _, rfl⟩ := hy; subst hx; simp [Op.equalIn, run_underlying ht]
  · obtain ⟨_, _, _, _, rfl⟩ := hx; subst hy; simp [Op.equalIn, run_underlying ht]
  · simp at hab
theorem eqNil_func {t : TypeId} {ps rs : Array TypeId} {v : Bool} (ht : P.underlying t = some (.func ps rs v)) {x y : AV} {a b : Bool} (ha : nilF x = some a) (hb : nilF y = some b) (hab : a = true ∨ b = true)
    {cx cy : Value} (hx : VR φ x cx) (hy : VR φ y cy) (D : Nat) (w : World) : (Op.equalIn (D + 1) t cx cy).run P w = .ok (a && b) w := by
  cases x <;> simp [nilF] at ha <;> cases y <;> simp [nilF] at hb <;> subst ha hb <;> simp only [VR] at hx hy
  · subst hx hy; simp [Op.equalIn, run_underlying ht]
  · obtain ⟨_, _, rfl, _⟩ := hy; subst hx; simp [Op.equalIn, run_underlying ht]
  · obtain ⟨_, _, rfl, _⟩ := hx; subst hy; simp [Op.equalIn, run_underlying ht]
  · simp at hab
theorem eqNil_iface {t : TypeId} {ms : Array (String × TypeId)} (ht : P.underlying t = some (.interface ms)) {x y : AV} {a b : Bool} (ha : nilI x = some a) (hb : nilI y = some b) (hab : a = true ∨ b = true)
    {cx cy : Value} (hx : VR φ x cx) (hy : VR φ y cy) (D : Nat) (w : World) : (Op.equalIn (D + 1) t cx cy).run P w = .ok (a && b) w := by
  cases x <;> simp [nilI] at ha <;> cases y <;> simp [nilI] at hb <;> subst ha hb <;> simp only [VR] at hx hy
  · subst hx hy; simp [Op.equalIn, run_underlying ht]
  · obtain ⟨_, rfl, _⟩ := hy; subst hx; simp [Op.equalIn, run_underlying ht]
  · obtain ⟨_, rfl, _⟩ := hx; subst hy; simp [Op.equalIn, run_underlying ht]
  · simp at hab

/-- fields, one behind the other -/
theorem eqFields_of (d : Nat) (ih : ∀ t, EqOk P d t (eqC P d t)) : ∀ (fs : List Field) (cs : List (Bool × Nat × Nat × EqC)), fieldEqs (eqC P d) P fs = some cs →
    ∀ (xs ys : List AV) (k : Bool → Bool), eqFields cs xs ys k = true → ∃ r, k r = true ∧
      ∀ (φ : Phi) (vx vy : Array Value) (D : Nat) (w : World), VRs φ xs vx.toList → (∀ x ∈ xs, x.flat = true) → VRs φ ys vy.toList → (∀ x ∈ ys, x.flat = true) → d ≤ D → (Op.eqFields D vx vy fs).run P w = .ok r w := by
  intro fs
  induction fs with
  | nil =>
    intro cs hcs xs ys k h
    simp [fieldEqs] at hcs
    subst hcs
    exact ⟨true, h, fun _ _ _ _ _ _ _ _ _ _ => by simp [Op.eqFields]⟩
  | cons f fs ihf =>
    intro cs hcs xs ys k h
    simp only [fieldEqs] at hcs
    cases ha : isAggT P f.type with
    | none => simp [ha] at hcs
    | some a => cases hn : szT P f.type with
      | none => simp [ha, hn] at hcs
      | some n => cases hr : fieldEqs (eqC P d) P fs with
        | none => simp [ha, hn, hr] at hcs
        | some r =>
          simp only [ha, hn, hr] at hcs
          cases hb : (f.name == "_") with
          | true =>
            rw [hb] at hcs
            simp at hcs
            subst hcs
            obtain ⟨q, hq, hrun⟩ := ihf r hr xs ys k h
            refine ⟨q, hq, fun φ vx vy D w h1 h2 h3 h4 h5 => ?_⟩
            have : f.name = "_" := by simpa using hb
            simpa [Op.eqFields, this] using hrun φ vx vy D w h1 h2 h3 h4 h5
          | false =>
            rw [hb] at hcs
            simp at hcs
            subst hcs
            have hne : f.name ≠ "_" := by simpa using hb
            have h' : partK a n xs f.offset (fun x => partK a n ys f.offset fun y => (eqC P d f.type).run x y fun q => bK q (eqFields r xs ys k) (k false)) = true := h
            rcases partK_of h' with ⟨rfl, hle, h1⟩ | ⟨rfl, v, hv, h1⟩
            · rcases partK_of h1 with ⟨_, hle', h2⟩ | ⟨e, _⟩
              · obtain ⟨q, hq, hrun⟩ := ih f.type _ _ _ h2
                rcases bK_of hq with ⟨rfl, h3⟩ | ⟨rfl, h3⟩
                · obtain ⟨q', hq', hrun'⟩ := ihf r hr xs ys k h3
                  refine ⟨q', hq', fun φ vx vy D w g1 g2 g3 g4 g5 => ?_⟩
                  obtain ⟨cx, ex, rx⟩ := run_part_at ha hn g1 g2 (.inl ⟨rfl, hle, rfl⟩) w
                  obtain ⟨cy, ey, ry⟩ := run_part_at ha hn g3 g4 (.inl ⟨rfl, hle', rfl⟩) w
                  simp [Op.eqFields, hne, ex, ey, hrun φ cx cy D w rx ry g5, hrun' φ vx vy D w g1 g2 g3 g4 g5]
                · refine ⟨false, h3, fun φ vx vy D w g1 g2 g3 g4 g5 => ?_⟩
                  obtain ⟨cx, ex, rx⟩ := run_part_at ha hn g1 g2 (.inl ⟨rfl, hle, rfl⟩) w
                  obtain ⟨cy, ey, ry⟩ := run_part_at ha hn g3 g4 (.inl ⟨rfl, hle', rfl⟩) w
                  simp [Op.eqFields, hne, ex, ey, hrun φ cx cy D w rx ry g5]
              · cases e
            · rcases partK_of h1 with ⟨e, _⟩ | ⟨_, v', hv', h2⟩
              · cases e
              · obtain ⟨q, hq, hrun⟩ := ih f.type _ _ _ h2
                rcases bK_of hq with ⟨rfl, h3⟩ | ⟨rfl, h3⟩
                · obtain ⟨q', hq', hrun'⟩ := ihf r hr xs ys k h3
                  refine ⟨q', hq', fun φ vx vy D w g1 g2 g3 g4 g5 => ?_⟩
                  obtain ⟨cx, ex, rx⟩ := run_part_at ha hn g1 g2 (.inr ⟨rfl, hv⟩) w
                  obtain ⟨cy, ey, ry⟩ := run_part_at ha hn g3 g4 (.inr ⟨rfl, hv'⟩) w
                  simp [Op.eqFields, hne, ex, ey, hrun φ cx cy D w rx ry g5, hrun' φ vx vy D w g1 g2 g3 g4 g5]
                · refine ⟨false, h3, fun φ vx vy D w g1 g2 g3 g4 g5 => ?_⟩
                  obtain ⟨cx, ex, rx⟩ := run_part_at ha hn g1 g2 (.inr ⟨rfl, hv⟩) w
                  obtain ⟨cy, ey, ry⟩ := run_part_at ha hn g3 g4 (.inr ⟨rfl, hv'⟩) w
                  simp [Op.eqFields, hne, ex, ey, hrun φ cx cy D w rx ry g5]

theorem bK_eq (a b : Bool) : bK a b (notB b) = (a == b) := by cases a <;> cases b <;> rfl

theorem eqC_ok : ∀ (d : Nat) (t : TypeId), EqOk P d t (eqC P d t) := by
  intro d
  induction d with
  | zero => exact fun t => eqBad_ok 0 t
  | succ d ih =>
    intro t
    unfold eqC
    cases hu : P.underlying t with
    | none => exact eqBad_ok _ _
    | some D =>
      cases D <;> simp only <;> try exact eqBad_ok _ _
      case bool =>
        intro x y k h
        obtain ⟨a, rfl, h1⟩ := asB_of h
        obtain ⟨b, rfl, h2⟩ := asB_of h1
        refine ⟨a == b, ?_, fun φ cx cy D w hx hy hD => ?_⟩
        · cases a <;> cases b <;> exact h2
        · obtain ⟨D, rfl⟩ : ∃ D', D = D' + 1 := ⟨D - 1, by omega⟩
          simp only [VR] at hx hy
          subst hx hy
          exact run_equalIn_bool w D t a b hu
      case int kk =>
        intro x y k h
        obtain ⟨i, a, rfl, h1⟩ := asI_of h
        obtain ⟨j, b, rfl, h2⟩ := asI_of h1
        obtain ⟨hk, h3⟩ := wK_of h2
        have := kindEq_of hk
        subst this
        rw [ieq_eq] at h3
        refine ⟨a == b, h3, fun φ cx cy D w hx hy hD => ?_⟩
        obtain ⟨D, rfl⟩ : ∃ D', D = D' + 1 := ⟨D - 1, by omega⟩
        simp only [VR] at hx hy
        subst hx hy
        exact run_equalIn_int w D t i kk a b hu
      case string =>
        intro x y k h
        obtain ⟨a, rfl, h1⟩ := asS_of h
        obtain ⟨b, rfl, h2⟩ := asS_of h1
        rw [leq_eq] at h2
        refine ⟨a == b, h2, fun φ cx cy D w hx hy hD => ?_⟩
        obtain ⟨D, rfl⟩ : ∃ D', D = D' + 1 := ⟨D - 1, by omega⟩
        simp only [VR] at hx hy
        obtain ⟨s, rfl, rfl⟩ := hx
        obtain ⟨s', rfl, rfl⟩ := hy
        rw [run_equalIn_string w D t s s' hu, bytes_beq]
      case pointer e =>
        cases hs : szT P e with
        | none => exact eqBad_ok _ _
        | some n => cases n with
          | zero => exact eqBad_ok _ _
          | succ n =>
            intro x y k h
            rcases bK_of h with ⟨_, h0⟩ | ⟨_, h0⟩
            · obtain ⟨a, b, ha, hb, hab, hk⟩ := eqNilK_of h0
              refine ⟨_, hk, fun φ cx cy D w hx hy hD => ?_⟩
              obtain ⟨D, rfl⟩ : ∃ D', D = D' + 1 := ⟨D - 1, by omega⟩
              exact eqNil_ptr hu ha hb hab hx hy D w
            · obtain ⟨i, o, rfl, h1⟩ := asP_of h0
              obtain ⟨j, p, rfl, h2⟩ := asP_of h1
              obtain ⟨hij, h3⟩ := wK_of h2
              have := Pos.eq_of hij
              subst this
              refine ⟨_, h3, fun φ cx cy D w hx hy hD => ?_⟩
              obtain ⟨D, rfl⟩ : ∃ D', D = D' + 1 := ⟨D - 1, by omega⟩
              simp only [VR] at hx hy
              obtain ⟨b, base, room, e1, rfl⟩ := hx
              obtain ⟨b', base', room', e2, rfl⟩ := hy
              rw [e1] at e2
              injection e2 with e2
              injection e2 with e2 e3
              injection e3 with e3 e4
              subst e2 e3 e4
              have : ((⟨b, base + o, none⟩ : Addr) == ⟨b, base + p, none⟩) = Nat.beq o p := by
                rw [Bool.eq_iff_iff, beq_iff_eq]
                constructor
                · intro h; injection h with _ h _; have : o = p := by omega
                  subst this; exact Nat.beq_refl o
                · intro h; rw [Nat.eq_of_beq_eq_true h]
              simp [Op.equalIn, run_underlying hu, run_sizeOf_of hs, sameAddr, this]
      case interface ms =>
        intro x y k h
        obtain ⟨a, b, ha, hb, hab, hk⟩ := eqNilK_of h
        refine ⟨_, hk, fun φ cx cy D w hx hy hD => ?_⟩
        obtain ⟨D, rfl⟩ : ∃ D', D = D' + 1 := ⟨D - 1, by omega⟩
        exact eqNil_iface hu ha hb hab hx hy D w
      case slice e =>
        intro x y k h
        obtain ⟨a, b, ha, hb, hab, hk⟩ := eqNilK_of h
        refine ⟨_, hk, fun φ cx cy D w hx hy hD => ?_⟩
        obtain ⟨D, rfl⟩ : ∃ D', D = D' + 1 := ⟨D - 1, by omega⟩
        exact eqNil_slice hu ha hb hab hx hy D w
      case map e f =>
        intro x y k h
        obtain ⟨a, b, ha, hb, hab, hk⟩ := eqNilK_of h
        refine ⟨_, hk, fun φ cx cy D w hx hy hD => ?_⟩
        obtain ⟨D, rfl⟩ : ∃ D', D = D' + 1 := ⟨D - 1, by omega⟩
        exact eqNil_map hu ha hb hab hx hy D w
      case func ps rs v =>
        intro x y k h
        obtain ⟨a, b, ha, hb, hab, hk⟩ := eqNilK_of h
        refine ⟨_, hk, fun φ cx cy D w hx hy hD => ?_⟩
        obtain ⟨D, rfl⟩ : ∃ D', D = D' + 1 := ⟨D - 1, by omega⟩
        exact eqNil_func hu ha hb hab hx hy D w
      case struct fs =>
        cases hst : P.stoodInHeld t with
        | true => exact eqBad_ok _ _
        | false => cases hf : fieldEqs (eqC P d) P fs.toList with
          | none => exact eqBad_ok _ _
          | some cs =>
            intro x y k h
            obtain ⟨a, rfl, h1⟩ := asA_of h
            obtain ⟨b, rfl, h2⟩ := asA_of h1
            obtain ⟨r, hr, hrun⟩ := eqFields_of d ih fs.toList cs hf a b k h2
            refine ⟨r, hr, fun φ cx cy D w hx hy hD => ?_⟩
            obtain ⟨D, rfl⟩ : ∃ D', D = D' + 1 := ⟨D - 1, by omega⟩
            simp only [VR] at hx hy
            obtain ⟨vx, rfl, h1, h2⟩ := hx
            obtain ⟨vy, rfl, h3, h4⟩ := hy
            have hfo : P.fieldsOf t = fs := by simp [Program.fieldsOf, hu]
            rw [run_equalIn_struct w D t vx vy (by rw [hfo]; exact hu) hst, hfo]
            exact hrun φ vx vy D w h1 h2 h3 h4 (by omega)

end
end Go.Am
