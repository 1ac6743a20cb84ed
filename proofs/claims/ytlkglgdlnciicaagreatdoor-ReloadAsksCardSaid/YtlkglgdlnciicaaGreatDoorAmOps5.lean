/- Operations that touch no heap are sound: slices, lengths; and all of them together. -/
import Derived.Test.YtlkglgdlnciicaaGreatDoorAmOps4
set_option linter.all false
namespace Go.Am
open Go

section
variable {P : Program}

theorem run_bound_of (i : IntKind) (n y : Nat) (code : BoundsCode) (h : n ≤ y) (w : World) : (Instr.sliceBound (.int i n) y code).run P w = .ok n w := by
  rw [run_sliceBound w i n y code (by omega) (by exact_mod_cast h)]
  simp

theorem run_sliceBounds_of (is : Bool) (len cap l h m : Nat) (lo hi mx : Option Value) (w : World)
    (hm : ∀ v, mx = some v → ∃ i, v = .int i m) (hm0 : mx = none → m = cap) (hmc : m ≤ cap)
    (hh : ∀ v, hi = some v → (∃ i, v = .int i h) ∧ h ≤ m) (hh0 : hi = none → h = len ∧ mx = none)
    (hl : ∀ v, lo = some v → (∃ i, v = .int i l) ∧ l ≤ h) (hl0 : lo = none → l = 0) :
    (Instr.sliceBounds is len cap lo hi mx).run P w = .ok (l, h, m) w := by
  cases mx with
  | none =>
    have := hm0 rfl
    subst this
    cases hi with
    | none =>
      obtain ⟨rfl, _⟩ := hh0 rfl
      cases lo with
      | none => have := hl0 rfl; subst this; simp [Instr.sliceBounds]
      | some v => obtain ⟨⟨i, rfl⟩, hle⟩ := hl v rfl; simp [Instr.sliceBounds, run_bound_of i l h _ hle]
    | some u =>
      obtain ⟨⟨j, rfl⟩, hle'⟩ := hh u rfl
      cases lo with
      | none => have := hl0 rfl; subst this; simp [Instr.sliceBounds, run_bound_of j h m _ hle']
      | some v => obtain ⟨⟨i, rfl⟩, hle⟩ := hl v rfl; simp [Instr.sliceBounds, run_bound_of i l h _ hle, run_bound_of j h m _ hle']
  | some q =>
    obtain ⟨z, rfl⟩ := hm q rfl
    cases hi with
    | none => exact absurd (hh0 rfl).2 (by simp)
    | some u =>
      obtain ⟨⟨j, rfl⟩, hle'⟩ := hh u rfl
      cases lo with
      | none => have := hl0 rfl; subst this; simp [Instr.sliceBounds, run_bound_of j h m _ hle', run_bound_of z m cap _ hmc]
      | some v => obtain ⟨⟨i, rfl⟩, hle⟩ := hl v rfl; simp [Instr.sliceBounds, run_bound_of i l h _ hle, run_bound_of j h m _ hle', run_bound_of z m cap _ hmc]

theorem hiK_of {has : Bool} {vs : List AV} {dflt most : Nat} {k : Nat → List AV → Bool} (h : hiK has vs dflt most k = true) :
    ∃ m r, k m r = true ∧ ((has = true ∧ (∃ i, vs = .i i (.ofNat m) :: r) ∧ m ≤ most) ∨ (has = false ∧ m = dflt ∧ r = vs)) := by
  cases has with
  | false => exact ⟨dflt, vs, h, .inr ⟨rfl, rfl, rfl⟩⟩
  | true =>
    obtain ⟨v, r, rfl, h1⟩ := hd_of h
    obtain ⟨i, m, rfl, hm, h2⟩ := boundK_of h1
    exact ⟨m, r, h2, .inl ⟨rfl, ⟨i, rfl⟩, hm⟩⟩

theorem slice_fin {t e : TypeId} {sz : Nat} (hu : P.underlying t = some (.slice e)) (hn : szT P e = some sz) {x : AV} {l h m : Nat} {mx : Bool} {k : AV → Bool}
    (hc : cutSl sz x l h m mx k = true) (hl : l ≤ h) (hm : m ≤ slMost x) (hm0 : mx = false → m = slMost x) (hhm : h ≤ m) :
    ∃ v, k v = true ∧ ∀ (φ : Phi) (cx : Value) (w : World) (lo hi mv : Option Value), VR φ x cx → (∀ v, mv = some v → (∃ i, v = .int i m) ∧ mx = true) → (mv = none → mx = false) →
      (∀ v, hi = some v → ∃ i, v = .int i h) → (hi = none → h = slLen x ∧ mv = none) → (∀ v, lo = some v → ∃ i, v = .int i l) → (lo = none → l = 0) →
      ∃ cv, (Instr.sliceAt t cx lo hi mv).run P w = .ok cv w ∧ VR φ v cv := by
  rcases asSl_of hc with ⟨rfl, h1⟩ | ⟨id, off, n, cap, esz, rfl, h1⟩
  · obtain ⟨hz, h2⟩ := wK_of h1
    have := nbeq_of hz
    subst this
    have : h = 0 := by omega
    subst this
    have : l = 0 := by omega
    subst this
    refine ⟨_, h2, fun φ cx w lo hi mv hr q1 q2 q3 q4 q5 q6 => ⟨.slice none 0 0, ?_, by simp [VR]⟩⟩
    simp only [VR] at hr
    subst hr
    have hb := run_sliceBounds_of (P := P) true 0 0 0 0 0 lo hi mv w (fun v e => (q1 v e).1) (fun _ => rfl) (Nat.le_refl _) (fun v e => ⟨q3 v e, Nat.le_refl _⟩) (fun e => ⟨rfl, (q4 e).2⟩) (fun v e => ⟨q5 v e, Nat.le_refl _⟩) (fun _ => rfl)
    simp [Instr.sliceAt, run_underlying hu, Instr.slice, hb, run_sizeOf_of hn]
  · obtain ⟨hz, h2⟩ := wK_of h1
    have := nbeq_of hz
    subst this
    rw [fNat_eq, fNat_eq] at h2
    have key : ∃ cap', k (.sl id (off + l * sz) (h - l) cap' sz) = true ∧ (∀ c, cap' = some c → c = m - l ∧ (mx = false → cap = some m)) ∧ (cap' = none → cap = none ∧ mx = false) := by
      cases cap with
      | none =>
        cases mx with
        | false => exact ⟨none, h2, by simp, fun _ => ⟨rfl, rfl⟩⟩
        | true => exact ⟨some (m - l), by rw [← fNat_eq (m - l) fun q => k (.sl id (off + l * sz) (h - l) (some q) sz)]; exact h2, fun c e => by injection e with e; exact ⟨e.symm, by simp⟩, by simp⟩
      | some c0 =>
        refine ⟨some (m - l), by rw [← fNat_eq (m - l) fun q => k (.sl id (off + l * sz) (h - l) (some q) sz)]; exact h2, fun c e => by injection e with e; exact ⟨e.symm, fun e2 => by rw [hm0 e2]; rfl⟩, by simp⟩
    obtain ⟨cap', hk, hcap1, hcap2⟩ := key
    refine ⟨_, hk, fun φ cx w lo hi mv hr q1 q2 q3 q4 q5 q6 => ?_⟩
    simp only [VR] at hr
    obtain ⟨b, base, room, a, cc, e1, rfl, hlen, hcc, hkn⟩ := hr
    have hmost : slMost (.sl id off n cap sz) ≤ cc := by
      cases cap with
      | none => exact hlen
      | some c0 => exact Nat.le_of_eq (hkn c0 rfl).symm
    -- the bound that the model takes
    obtain ⟨mc, hmc1, hmc2, hmc3⟩ : ∃ mc : Nat, (mx = true → mc = m) ∧ (mx = false → mc = cc) ∧ mc ≤ cc := by
      cases mx with
      | true => exact ⟨m, fun _ => rfl, by simp, by omega⟩
      | false => exact ⟨cc, by simp, fun _ => rfl, Nat.le_refl _⟩
    have hmm : m ≤ mc := by
      cases mx with
      | true => exact Nat.le_of_eq (hmc1 rfl).symm
      | false => rw [hmc2 rfl]; omega
    have hb := run_sliceBounds_of (P := P) true n cc l h mc lo hi mv w
      (fun v e => by obtain ⟨i, ev⟩ := (q1 v e).1; exact ⟨i, by rw [hmc1 (q1 v e).2]; exact ev⟩) (fun e => hmc2 (q2 e)) hmc3
      (fun v e => ⟨q3 v e, by omega⟩) (fun e => ⟨(q4 e).1, (q4 e).2⟩) (fun v e => ⟨q5 v e, hl⟩) q6
    refine ⟨.slice (if mc = l then some a else (some a).map (·.add (l * sz))) (h - l) (mc - l), ?_, ?_⟩
    · simp [Instr.sliceAt, run_underlying hu, Instr.slice, hb, run_sizeOf_of hn]
    · simp only [VR]
      refine ⟨b, base, room, if mc = l then a else a.add (l * sz), mc - l, e1, ?_, by omega, fun hne => ?_, fun c e => ?_⟩
      · by_cases g : mc = l <;> simp [g]
      · have : mc ≠ l := by omega
        obtain ⟨ea, hroom⟩ := hcc (by omega)
        rw [if_neg this, ea, addr_add]
        refine ⟨by rw [Nat.add_assoc], ?_⟩
        have : l * sz + (mc - l) * sz = mc * sz := by rw [← Nat.add_mul]; congr 1; omega
        have : mc * sz ≤ cc * sz := Nat.mul_le_mul_right _ hmc3
        omega
      · obtain ⟨rfl, g⟩ := hcap1 c e
        cases mx with
        | true => rw [hmc1 rfl]
        | false => rw [hmc2 rfl, hkn m (g rfl)]

theorem extract_bytes (s : ByteArray) (l h : Nat) : bytesOfBA (s.extract l h) = ((bytesOfBA s).drop l).take (h - l) := by
  simp only [bytesOfBA, ByteArray.data_extract, Array.toList_extract, List.extract_eq_take_drop, List.map_take, List.map_drop]

theorem string_fin {t : TypeId} (hu : P.underlying t = some .string) {bs : List Nat} {l h : Nat} (hl : l ≤ h) (hh : h ≤ bs.length) (φ : Phi) (cx : Value) (w : World) (lo hi : Option Value) (hr : VR φ (.s bs) cx)
    (q3 : ∀ v, hi = some v → ∃ i, v = .int i h) (q4 : hi = none → h = bs.length) (q5 : ∀ v, lo = some v → ∃ i, v = .int i l) (q6 : lo = none → l = 0) :
    ∃ cv, (Instr.sliceAt t cx lo hi none).run P w = .ok cv w ∧ VR φ (.s ((bs.drop l).take (h - l))) cv := by
  simp only [VR] at hr
  obtain ⟨s, rfl, rfl⟩ := hr
  have hsz : (bytesOfBA s).length = s.size := by simp [bytesOfBA]
  have hb := run_sliceBounds_of (P := P) false s.size s.size l h s.size lo hi none w (by simp) (fun _ => rfl) (Nat.le_refl _)
    (fun v e => ⟨q3 v e, by omega⟩) (fun e => ⟨by rw [q4 e, hsz], rfl⟩) (fun v e => ⟨q5 v e, hl⟩) q6
  refine ⟨.string (s.extract l h), by simp [Instr.sliceAt, run_underlying hu, Instr.slice, hb], ?_⟩
  simp only [VR]
  exact ⟨_, rfl, extract_bytes s l h⟩

theorem slice_ok (t : TypeId) (x : Operand) (lo hi mx : Option Operand) : PureOk P (.slice t x lo hi mx) (pureC P (.slice t x lo hi mx)) := by
  show PureOk P _ (sliceC P t lo.isSome hi.isSome mx.isSome)
  unfold sliceC
  cases hu : P.underlying t with
  | none => exact pureBad_ok _
  | some D =>
    cases D <;> simp only <;> (try exact pureBad_ok _)
    case string =>
      cases mx with
      | some _ => exact pureBad_ok _
      | none =>
        intro vs k h
        obtain ⟨v, bs, rfl, h1⟩ := hd_of h
        obtain ⟨l, rfl, h2⟩ := asS_of h1
        rw [fNat_eq, lenN_eq] at h2
        cases lo with
        | none =>
          obtain ⟨m, r, h3, hm⟩ := hiK_of h2
          obtain ⟨hle, h4⟩ := cutK_of h3
          refine ⟨_, h4, fun φ ρ o w ho hr => ?_⟩
          cases hi with
          | none =>
            obtain ⟨rfl, rfl⟩ : m = l.length ∧ r = bs := by rcases hm with ⟨e, _⟩ | ⟨_, e1, e2⟩; cases e; exact ⟨e1, e2⟩
            obtain ⟨cv, e1, e2⟩ := string_fin hu (l := 0) (h := l.length) (Nat.zero_le _) (Nat.le_refl _) φ (ρ x) w none none (vrs1 (v := ρ x) (by simpa [Op.operands] using hr)) (by simp) (fun _ => rfl) (by simp) (fun _ => rfl)
            exact ⟨cv, by simp only [execOp, ho]; exact exec_v e1, by simpa using e2⟩
          | some y =>
            obtain ⟨⟨i, rfl⟩, hm'⟩ : (∃ i, bs = .i i (.ofNat m) :: r) ∧ m ≤ l.length := by rcases hm with ⟨_, e1, e2⟩ | ⟨e, _⟩; exact ⟨e1, e2⟩; cases e
            obtain ⟨r1, r2⟩ := vrs2 (v := ρ x) (u := ρ y) (by simpa [Op.operands] using hr)
            simp only [VR] at r2
            obtain ⟨cv, e1, e2⟩ := string_fin hu (l := 0) (h := m) (Nat.zero_le _) hm' φ (ρ x) w none (some (ρ y)) r1 (fun v e => by injection e with e; subst e; exact ⟨i, r2⟩) (by simp) (by simp) (fun _ => rfl)
            exact ⟨cv, by simp only [execOp, ho]; exact exec_v e1, by simpa using e2⟩
        | some z =>
          obtain ⟨v0, bs', rfl, h2'⟩ := hd_of h2
          obtain ⟨m, r, h3, hm⟩ := hiK_of h2'
          obtain ⟨i0, l0, rfl, hl0, h3'⟩ := boundK_of h3
          obtain ⟨hle, h4⟩ := cutK_of h3'
          refine ⟨_, h4, fun φ ρ o w ho hr => ?_⟩
          cases hi with
          | none =>
            obtain ⟨rfl, rfl⟩ : m = l.length ∧ r = bs' := by rcases hm with ⟨e, _⟩ | ⟨_, e1, e2⟩; cases e; exact ⟨e1, e2⟩
            obtain ⟨r1, r2⟩ := vrs2 (v := ρ x) (u := ρ z) (by simpa [Op.operands] using hr)
            simp only [VR] at r2
            obtain ⟨cv, e1, e2⟩ := string_fin hu hl0 (Nat.le_refl _) φ (ρ x) w (some (ρ z)) none r1 (by simp) (fun _ => rfl) (fun v e => by injection e with e; subst e; exact ⟨i0, r2⟩) (by simp)
            exact ⟨cv, by simp only [execOp, ho]; exact exec_v e1, e2⟩
          | some y =>
            obtain ⟨⟨i, rfl⟩, hm'⟩ : (∃ i, bs' = .i i (.ofNat m) :: r) ∧ m ≤ l.length := by rcases hm with ⟨_, e1, e2⟩ | ⟨e, _⟩; exact ⟨e1, e2⟩; cases e
            obtain ⟨r1, r2, r3⟩ := vrs3 (v := ρ x) (u := ρ z) (t := ρ y) (by simpa [Op.operands] using hr)
            simp only [VR] at r2 r3
            obtain ⟨cv, e1, e2⟩ := string_fin hu hl0 hm' φ (ρ x) w (some (ρ z)) (some (ρ y)) r1 (fun v e => by injection e with e; subst e; exact ⟨i, r3⟩) (by simp) (fun v e => by injection e with e; subst e; exact ⟨i0, r2⟩) (by simp)
            exact ⟨cv, by simp only [execOp, ho]; exact exec_v e1, e2⟩
    case slice e =>
      cases hn : szT P e with
      | none => exact pureBad_ok _
      | some sz =>
        cases hmh : (mx.isSome && !hi.isSome) with
        | true => exact pureBad_ok _
        | false =>
          intro vs k h
          obtain ⟨v, bs, rfl, h1⟩ := hd_of h
          cases lo with
          | none =>
            obtain ⟨m, r, h2, hm⟩ := hiK_of h1
            obtain ⟨q, r', h3, hq⟩ := hiK_of h2
            obtain ⟨hle, h4⟩ := wK_of h3
            have hle := nble_of hle
            have hq1 : q ≤ slMost v := by rcases hq with ⟨_, _, e⟩ | ⟨_, e, _⟩; exact e; exact Nat.le_of_eq e
            have hq2 : mx.isSome = false → q = slMost v := by rcases hq with ⟨e, _⟩ | ⟨_, e, _⟩; simp [e]; exact fun _ => e
            obtain ⟨u, hk, hrun⟩ := slice_fin hu hn h4 (Nat.zero_le _) hq1 hq2 hle
            refine ⟨u, hk, fun φ ρ o w ho hr => ?_⟩
            cases hi with
            | none =>
              have hmx : mx = none := by cases mx <;> simp at hmh <;> rfl
              subst hmx
              obtain ⟨rfl, _⟩ : m = slLen v ∧ r = bs := by rcases hm with ⟨e, _⟩ | ⟨_, e1, e2⟩; cases e; exact ⟨e1, e2⟩
              have r1 : VR φ v (ρ x) := vrs1 (v := ρ x) (by simpa [Op.operands] using hr)
              obtain ⟨cv, e1, e2⟩ := hrun φ (ρ x) w none none none r1 (by simp) (fun _ => rfl) (by simp) (fun _ => ⟨rfl, rfl⟩) (by simp) (fun _ => rfl)
              exact ⟨cv, by simp only [execOp, ho]; exact exec_v e1, e2⟩
            | some y =>
              obtain ⟨i, rfl⟩ : ∃ i, bs = .i i (.ofNat m) :: r := by rcases hm with ⟨_, e1, e2⟩ | ⟨e, _⟩; exact e1; cases e
              cases mx with
              | none =>
                obtain ⟨r1, r2⟩ := vrs2 (v := ρ x) (u := ρ y) (by simpa [Op.operands] using hr)
                simp only [VR] at r2
                obtain ⟨cv, e1, e2⟩ := hrun φ (ρ x) w none (some (ρ y)) none r1 (by simp) (fun _ => rfl) (fun v e => by injection e with e; subst e; exact ⟨i, r2⟩) (by simp) (by simp) (fun _ => rfl)
                exact ⟨cv, by simp only [execOp, ho]; exact exec_v e1, e2⟩
              | some z =>
                obtain ⟨j, rfl⟩ : ∃ j, r = .i j (.ofNat q) :: r' := by rcases hq with ⟨_, e1, e2⟩ | ⟨e, _⟩; exact e1; cases e
                obtain ⟨r1, r2, r3⟩ := vrs3 (v := ρ x) (u := ρ y) (t := ρ z) (by simpa [Op.operands] using hr)
                simp only [VR] at r2 r3
                obtain ⟨cv, e1, e2⟩ := hrun φ (ρ x) w none (some (ρ y)) (some (ρ z)) r1 (fun v e => by injection e with e; subst e; exact ⟨⟨j, r3⟩, rfl⟩) (by simp) (fun v e => by injection e with e; subst e; exact ⟨i, r2⟩) (by simp) (by simp) (fun _ => rfl)
                exact ⟨cv, by simp only [execOp, ho]; exact exec_v e1, e2⟩
          | some z0 =>
            obtain ⟨v0, bs', rfl, h1'⟩ := hd_of h1
            obtain ⟨m, r, h2, hm⟩ := hiK_of h1'
            obtain ⟨q, r', h3, hq⟩ := hiK_of h2
            obtain ⟨hle, h4⟩ := wK_of h3
            obtain ⟨i0, l0, rfl, hl0, h5⟩ := boundK_of h4
            have hle := nble_of hle
            have hq1 : q ≤ slMost v := by rcases hq with ⟨_, _, e⟩ | ⟨_, e, _⟩; exact e; exact Nat.le_of_eq e
            have hq2 : mx.isSome = false → q = slMost v := by rcases hq with ⟨e, _⟩ | ⟨_, e, _⟩; simp [e]; exact fun _ => e
            obtain ⟨u, hk, hrun⟩ := slice_fin hu hn h5 hl0 hq1 hq2 hle
            refine ⟨u, hk, fun φ ρ o w ho hr => ?_⟩
            cases hi with
            | none =>
              have hmx : mx = none := by cases mx <;> simp at hmh <;> rfl
              subst hmx
              obtain ⟨rfl, _⟩ : m = slLen v ∧ r = bs' := by rcases hm with ⟨e, _⟩ | ⟨_, e1, e2⟩; cases e; exact ⟨e1, e2⟩
              obtain ⟨r1, r2⟩ := vrs2 (v := ρ x) (u := ρ z0) (by simpa [Op.operands] using hr)
              simp only [VR] at r2
              obtain ⟨cv, e1, e2⟩ := hrun φ (ρ x) w (some (ρ z0)) none none r1 (by simp) (fun _ => rfl) (by simp) (fun _ => ⟨rfl, rfl⟩) (fun v e => by injection e with e; subst e; exact ⟨i0, r2⟩) (by simp)
              exact ⟨cv, by simp only [execOp, ho]; exact exec_v e1, e2⟩
            | some y =>
              obtain ⟨i, rfl⟩ : ∃ i, bs' = .i i (.ofNat m) :: r := by rcases hm with ⟨_, e1, e2⟩ | ⟨e, _⟩; exact e1; cases e
              cases mx with
              | none =>
                obtain ⟨r1, r2, r3⟩ := vrs3 (v := ρ x) (u := ρ z0) (t := ρ y) (by simpa [Op.operands] using hr)
                simp only [VR] at r2 r3
                obtain ⟨cv, e1, e2⟩ := hrun φ (ρ x) w (some (ρ z0)) (some (ρ y)) none r1 (by simp) (fun _ => rfl) (fun v e => by injection e with e; subst e; exact ⟨i, r3⟩) (by simp) (fun v e => by injection e with e; subst e; exact ⟨i0, r2⟩) (by simp)
                exact ⟨cv, by simp only [execOp, ho]; exact exec_v e1, e2⟩
              | some z =>
                obtain ⟨j, rfl⟩ : ∃ j, r = .i j (.ofNat q) :: r' := by rcases hq with ⟨_, e1, e2⟩ | ⟨e, _⟩; exact e1; cases e
                have hr' : VRs φ (v :: .i i0 (.ofNat l0) :: .i i (.ofNat m) :: .i j (.ofNat q) :: r') [ρ x, ρ z0, ρ y, ρ z] := by simpa [Op.operands] using hr
                simp only [VRs] at hr'
                obtain ⟨r1, r2, r3, r4, _⟩ := hr'
                simp only [VR] at r2 r3 r4
                obtain ⟨cv, e1, e2⟩ := hrun φ (ρ x) w (some (ρ z0)) (some (ρ y)) (some (ρ z)) r1 (fun v e => by injection e with e; subst e; exact ⟨⟨j, r4⟩, rfl⟩) (by simp) (fun v e => by injection e with e; subst e; exact ⟨i, r3⟩) (by simp) (fun v e => by injection e with e; subst e; exact ⟨i0, r2⟩) (by simp)
                exact ⟨cv, by simp only [execOp, ho]; exact exec_v e1, e2⟩


theorem exec_call {o : Oper} {ρ : Operand → Value} {b : Builtin} {args : Array Operand} {ts : Array TypeId} (ho : o.op = .call ⟨.builtin b, args, ts⟩) (w : World) :
    (execOp ρ o).run P w = (builtin b ts o.type (args.map fun | .const _ => true | _ => false) (args.map ρ)).run P w := by
  simp only [execOp, ho, resolve, Sem.run_bind, Sem.run_pure, Result.andThen_ok, invoke]
  rfl

theorem args_one {args : Array Operand} {ρ : Operand → Value} {φ : Phi} {v : AV} {r : List AV} (hr : VRs φ (v :: r) (args.toList.map ρ)) : ∃ u us, (args.map ρ) = (u :: us).toArray ∧ VR φ v u ∧ VRs φ r us := by
  obtain ⟨u, us, e, r1, r2⟩ := hr.uncons
  refine ⟨u, us, ?_, r1, r2⟩
  have : (args.map ρ).toList = u :: us := by rw [Array.toList_map]; exact e
  rw [← this]

theorem exec_call_operands {b : Builtin} {args : Array Operand} {ts : Array TypeId} : (Op.call ⟨.builtin b, args, ts⟩).operands.toList = args.toList := by
  simp [Op.operands, Call.operands]

theorem len_ok (args : Array Operand) (ts : Array TypeId) : PureOk P (.call ⟨.builtin .len, args, ts⟩) (pureC P (.call ⟨.builtin .len, args, ts⟩)) := by
  unfold pureC
  simp only
  cases ht : ts[0]? with
  | none => exact pureBad_ok _
  | some t =>
    simp only
    cases hu : P.underlying t with
    | none => exact pureBad_ok _
    | some D =>
      cases D <;> simp only <;> (try exact pureBad_ok _)
      case string =>
        intro vs k h
        obtain ⟨v, r, rfl, h1⟩ := one_of h
        obtain ⟨l, rfl, h2⟩ := asS_of h1
        rw [fNat_eq, lenN_eq] at h2
        refine ⟨_, h2, fun φ ρ o w ho hr => ?_⟩
        rw [exec_call_operands] at hr
        obtain ⟨u, us, e1, r1, _⟩ := args_one hr
        simp only [VR] at r1
        obtain ⟨s, rfl, rfl⟩ := r1
        refine ⟨goInt s.size, ?_, by simp only [VR, goInt]; simp [bytesOfBA]⟩
        rw [exec_call ho, e1]
        simp [builtin, Builtin.len_, ht, run_underlying hu]
      case slice e =>
        intro vs k h
        obtain ⟨v, r, rfl, h1⟩ := one_of h
        rcases asSl_of h1 with ⟨rfl, h2⟩ | ⟨id, off, n, cap, esz, rfl, h2⟩
        · refine ⟨_, h2, fun φ ρ o w ho hr => ?_⟩
          rw [exec_call_operands] at hr
          obtain ⟨u, us, e1, r1, _⟩ := args_one hr
          simp only [VR] at r1
          subst r1
          refine ⟨goInt 0, ?_, by simp only [VR, goInt]; rfl⟩
          rw [exec_call ho, e1]
          simp [builtin, Builtin.len_, ht, run_underlying hu]
        · refine ⟨_, h2, fun φ ρ o w ho hr => ?_⟩
          rw [exec_call_operands] at hr
          obtain ⟨u, us, e1, r1, _⟩ := args_one hr
          simp only [VR] at r1
          obtain ⟨b, base, room, a, cc, e2, rfl, _⟩ := r1
          refine ⟨goInt n, ?_, by simp only [VR, goInt]; rfl⟩
          rw [exec_call ho, e1]
          simp [builtin, Builtin.len_, ht, run_underlying hu]
      case array m e =>
        intro vs k h
        obtain ⟨v, r, rfl, h2⟩ := one_of h
        refine ⟨_, h2, fun φ ρ o w ho hr => ?_⟩
        rw [exec_call_operands] at hr
        obtain ⟨u, us, e1, r1, _⟩ := args_one hr
        refine ⟨goInt m, ?_, by simp only [VR, goInt]; rfl⟩
        rw [exec_call ho, e1]
        simp [builtin, Builtin.len_, ht, run_underlying hu]

theorem cap_ok (args : Array Operand) (ts : Array TypeId) : PureOk P (.call ⟨.builtin .cap, args, ts⟩) (pureC P (.call ⟨.builtin .cap, args, ts⟩)) := by
  unfold pureC
  simp only
  cases ht : ts[0]? with
  | none => exact pureBad_ok _
  | some t =>
    simp only
    cases hu : P.underlying t with
    | none => exact pureBad_ok _
    | some D =>
      cases D <;> simp only <;> (try exact pureBad_ok _)
      case slice e =>
        intro vs k h
        obtain ⟨v, r, rfl, h1⟩ := one_of h
        rcases asSl_of h1 with ⟨rfl, h2⟩ | ⟨id, off, n, cap, esz, rfl, h2⟩
        · refine ⟨_, h2, fun φ ρ o w ho hr => ?_⟩
          rw [exec_call_operands] at hr
          obtain ⟨u, us, e1, r1, _⟩ := args_one hr
          simp only [VR] at r1
          subst r1
          refine ⟨goInt 0, ?_, by simp only [VR, goInt]; rfl⟩
          rw [exec_call ho, e1]
          simp [builtin, Builtin.cap_, ht, run_underlying hu]
        · obtain ⟨c, rfl, h3⟩ := oK_of h2
          refine ⟨_, h3, fun φ ρ o w ho hr => ?_⟩
          rw [exec_call_operands] at hr
          obtain ⟨u, us, e1, r1, _⟩ := args_one hr
          simp only [VR] at r1
          obtain ⟨b, base, room, a, cc, e2, rfl, _, _, hc⟩ := r1
          have := hc c rfl
          subst this
          refine ⟨goInt cc, ?_, by simp only [VR, goInt]; rfl⟩
          rw [exec_call ho, e1]
          simp [builtin, Builtin.cap_, ht, run_underlying hu]

theorem args_two {args : Array Operand} {ρ : Operand → Value} {φ : Phi} {v v' : AV} {r : List AV} (hr : VRs φ (v :: v' :: r) (args.toList.map ρ)) :
    ∃ u u' us, (args.map ρ) = (u :: u' :: us).toArray ∧ VR φ v u ∧ VR φ v' u' ∧ VRs φ r us := by
  obtain ⟨u, us, e, r1, r2⟩ := args_one hr
  obtain ⟨u', us', rfl, r3, r4⟩ := r2.uncons
  exact ⟨u, u', us', e, r1, r3, r4⟩

theorem two_of {vs : List AV} {k : AV → AV → Bool} (h : two vs k = true) : ∃ x y, vs = [x, y] ∧ k x y = true := by
  obtain ⟨x, r, rfl, h1⟩ := hd_of h
  obtain ⟨y, r', rfl, h2⟩ := hd_of h1
  cases r' with
  | nil => exact ⟨x, y, rfl, h2⟩
  | cons _ _ => cases h2

theorem max_ok (args : Array Operand) (ts : Array TypeId) : PureOk P (.call ⟨.builtin .max, args, ts⟩) (pureC P (.call ⟨.builtin .max, args, ts⟩)) := fun vs k h => by
  obtain ⟨x, y, rfl, h1⟩ := two_of h
  obtain ⟨i, a, rfl, h2⟩ := asI_of h1
  obtain ⟨j, b, rfl, h3⟩ := asI_of h2
  have key : ∃ v, k v = true ∧ v = .i i (if b > a then b else a) := by
    rcases bK_of h3 with ⟨hb, h4⟩ | ⟨hb, h4⟩ <;> rw [ile_eq] at hb
    · have : b ≤ a := by simpa using hb
      exact ⟨_, h4, by rw [if_neg (by omega)]⟩
    · have : ¬ b ≤ a := by simpa using hb
      exact ⟨_, h4, by rw [if_pos (by omega)]⟩
  obtain ⟨v, hk, rfl⟩ := key
  refine ⟨_, hk, fun φ ρ o w ho hr => ⟨.int i (if b > a then b else a), ?_, by simp only [VR]⟩⟩
  rw [exec_call_operands] at hr
  obtain ⟨u, u', us, e1, r1, r2, r3⟩ := args_two hr
  have : us = [] := by cases us with
    | nil => rfl
    | cons _ _ => simp [VRs] at r3
  subst this
  simp only [VR] at r1 r2
  subst r1 r2
  rw [exec_call ho, e1]
  simp [builtin, Builtin.max_, Builtin.max2]

theorem min_ok (args : Array Operand) (ts : Array TypeId) : PureOk P (.call ⟨.builtin .min, args, ts⟩) (pureC P (.call ⟨.builtin .min, args, ts⟩)) := fun vs k h => by
  obtain ⟨x, y, rfl, h1⟩ := two_of h
  obtain ⟨i, a, rfl, h2⟩ := asI_of h1
  obtain ⟨j, b, rfl, h3⟩ := asI_of h2
  have key : ∃ v, k v = true ∧ v = .i i (if b < a then b else a) := by
    rcases bK_of h3 with ⟨hb, h4⟩ | ⟨hb, h4⟩ <;> rw [ile_eq] at hb
    · have : a ≤ b := by simpa using hb
      exact ⟨_, h4, by rw [if_neg (by omega)]⟩
    · have : ¬ a ≤ b := by simpa using hb
      exact ⟨_, h4, by rw [if_pos (by omega)]⟩
  obtain ⟨v, hk, rfl⟩ := key
  refine ⟨_, hk, fun φ ρ o w ho hr => ⟨.int i (if b < a then b else a), ?_, by simp only [VR]⟩⟩
  rw [exec_call_operands] at hr
  obtain ⟨u, u', us, e1, r1, r2, r3⟩ := args_two hr
  have : us = [] := by cases us with
    | nil => rfl
    | cons _ _ => simp [VRs] at r3
  subst this
  simp only [VR] at r1 r2
  subst r1 r2
  rw [exec_call ho, e1]
  simp [builtin, Builtin.min_, Builtin.min2]

theorem sliceData_nil (ts : Array TypeId) (ty : TypeId) (n c : Nat) : Builtin.unsafeSliceData_ ts ty #[.slice none n c] = pure (.pointer none) := rfl
theorem sliceData_some (ts : Array TypeId) (ty : TypeId) (a : Addr) (n c : Nat) : Builtin.unsafeSliceData_ ts ty #[.slice (some a) n c] =
    (if c ≠ 0 then pure (.pointer (some a)) else do
      if (← viewAt a.block).isSome then pure (.pointer (some a))
      else pure (.pointer (some ⟨← newObj (.view a (← elemOf ty)), 0, none⟩))) := rfl

theorem sliceData_ok (args : Array Operand) (ts : Array TypeId) : PureOk P (.call ⟨.builtin .unsafeSliceData, args, ts⟩) (pureC P (.call ⟨.builtin .unsafeSliceData, args, ts⟩)) := fun vs k h0 => by
  have hp : Nat.beq args.size 1 = true ∧ (one vs fun x => asSl x (k .nilp) fun id off n _ _ => wK (Nat.ble 1 n) (k (.ptr id off))) = true := by
    unfold pureC at h0
    simp only at h0
    cases hb : Nat.beq args.size 1 with
    | false => rw [hb] at h0; cases h0
    | true => rw [hb] at h0; exact ⟨rfl, h0⟩
  obtain ⟨hb, h⟩ := hp
  have hlen := nbeq_of hb
  obtain ⟨v, r, rfl, h1⟩ := one_of h
  have us0 : ∀ {φ : Phi} {us : List Value} {u : Value} {ρ : Operand → Value}, (args.map ρ) = (u :: us).toArray → us = [] := fun e => by
    have := congrArg Array.size e
    simp [hlen] at this
    exact this
  rcases asSl_of h1 with ⟨rfl, h2⟩ | ⟨id, off, n, cap, esz, rfl, h2⟩
  · refine ⟨_, h2, fun φ ρ o w ho hr => ?_⟩
    rw [exec_call_operands] at hr
    obtain ⟨u, us, e1, r1, _⟩ := args_one hr
    have := us0 (φ := φ) e1
    subst this
    simp only [VR] at r1
    subst r1
    refine ⟨.pointer none, ?_, by simp only [VR]⟩
    rw [exec_call ho, e1]
    simp only [builtin, sliceData_nil, Sem.run_bind, Sem.run_pure, Result.andThen_ok]
  · obtain ⟨hn, h3⟩ := wK_of h2
    have hn := nble_of hn
    refine ⟨_, h3, fun φ ρ o w ho hr => ?_⟩
    rw [exec_call_operands] at hr
    obtain ⟨u, us, e1, r1, _⟩ := args_one hr
    have := us0 (φ := φ) e1
    subst this
    simp only [VR] at r1
    obtain ⟨b, base, room, a, cc, e2, rfl, hl, hcc, _⟩ := r1
    obtain ⟨rfl, _⟩ := hcc (by omega)
    have hc0 : cc ≠ 0 := by omega
    refine ⟨.pointer (some ⟨b, base + off, none⟩), ?_, by simp only [VR]; exact ⟨b, base, room, e2, rfl⟩⟩
    rw [exec_call ho, e1]
    simp only [builtin, sliceData_some, ne_eq, hc0, not_false_eq_true, if_true, Sem.run_bind, Sem.run_pure, Result.andThen_ok]


theorem pureC_ok (op : Op) : PureOk P op (pureC P op) := by
  cases op
  case move x => exact move_ok x
  case assign x => exact assign_ok x
  case pick c a b => exact pick_ok c a b
  case build t ps => exact build_ok t ps
  case nilCheck x => exact nilCheck_ok x
  case binOp op t x y u => exact binC_ok op t x y u
  case unOp op t x => cases op <;> first | exact not_ok t x | exact neg_ok t x | exact pureBad_ok _
  case convert s d x => exact convert_ok s d x
  case makeInterface t x => exact makeInterface_ok t x
  case makeFunc f a b => exact makeFunc_ok f a b
  case slice t x lo hi mx => exact slice_ok t x lo hi mx
  case fieldAddr s x f => exact fieldAddr_ok s x f
  case field s x f => exact field_ok s x f
  case indexAddr t x i => exact indexAddr_ok t x i
  case index t x i => exact index_ok t x i
  case typeAssert x s t ok => exact typeAssert_ok x s t ok
  case extract x j => exact extract_ok x j
  case call c =>
    obtain ⟨callee, args, ts⟩ := c
    cases callee <;> (try exact pureBad_ok _)
    case builtin b =>
      cases b <;> first
        | exact len_ok args ts
        | exact cap_ok args ts
        | exact max_ok args ts
        | exact min_ok args ts
        | exact sliceData_ok args ts
        | exact pureBad_ok _
  all_goals exact pureBad_ok _

end
end Go.Am
