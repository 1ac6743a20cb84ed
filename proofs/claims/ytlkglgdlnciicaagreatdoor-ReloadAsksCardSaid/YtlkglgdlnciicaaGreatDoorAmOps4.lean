/- Operations that touch no heap are sound: fields, places, slices, conversions; and all of them together. -/
import Derived.Test.YtlkglgdlnciicaaGreatDoorAmOps
set_option linter.all false
namespace Go.Am
open Go

section
variable {P : Program}

theorem nilCheck_ok (x : Operand) : PureOk P (.nilCheck x) (pureC P (.nilCheck x)) := fun vs k h => by
  have h' : one vs (fun x => bK (asP x fun _ _ => true) (k x) (bK (asIf x fun _ _ => true) (k x) (asFn x fun f _ _ => match f with
      | .func _ => k x
      | _ => false))) = true := h
  obtain ⟨v, r, rfl, h1⟩ := one_of h'
  rcases bK_of h1 with ⟨h2, h3⟩ | ⟨_, h2⟩
  · obtain ⟨id, off, rfl, _⟩ := asP_of h2
    refine ⟨_, h3, fun φ ρ o w ho hr => ?_⟩
    have r1 := vrs1 hr
    simp only [VR] at r1
    obtain ⟨b, base, room, e, ev⟩ := r1
    exact ⟨.pointer (some ⟨b, base + off, none⟩), by simp [execOp, ho, ev], by simp only [VR]; exact ⟨b, base, room, e, rfl⟩⟩
  · rcases bK_of h2 with ⟨h3, h4⟩ | ⟨_, h3⟩
    · obtain ⟨t, y, rfl, _⟩ := asIf_of h3
      refine ⟨_, h4, fun φ ρ o w ho hr => ?_⟩
      have r1 := vrs1 hr
      simp only [VR] at r1
      obtain ⟨y', ev, ry⟩ := r1
      exact ⟨.iface t y', by simp [execOp, ho, ev], by simp only [VR]; exact ⟨y', rfl, ry⟩⟩
    · obtain ⟨f, u, y, rfl, h4⟩ := asFn_of h3
      cases f <;> simp only at h4 <;> (try (cases h4; done))
      refine ⟨_, h4, fun φ ρ o w ho hr => ?_⟩
      have r1 := vrs1 hr
      simp only [VR] at r1
      obtain ⟨xs, ys, ev, ra, rb⟩ := r1
      exact ⟨.func _ xs ys, by simp only [execOp, ho, ev]; rfl, by simp only [VR]; exact ⟨xs, ys, rfl, ra, rb⟩⟩

theorem not_ok (t : TypeId) (x : Operand) : PureOk P (.unOp .not t x) (pureC P (.unOp .not t x)) := fun vs k h => by
  obtain ⟨v, r, rfl, h1⟩ := one_of h
  obtain ⟨a, rfl, h2⟩ := asB_of h1
  rw [fB_eq, notB_eq] at h2
  refine ⟨_, h2, fun φ ρ o w ho hr => ⟨.bool (!a), ?_, by simp [VR]⟩⟩
  have r1 := vrs1 hr
  simp only [VR] at r1
  simp [execOp, ho, r1, Op.unary]
theorem neg_ok (t : TypeId) (x : Operand) : PureOk P (.unOp .neg t x) (pureC P (.unOp .neg t x)) := fun vs k h => by
  obtain ⟨v, r, rfl, h1⟩ := one_of h
  obtain ⟨i, n, rfl, h2⟩ := asI_of h1
  refine ⟨_, wrapK_of h2, fun φ ρ o w ho hr => ⟨.int i (i.wrap (0 - n)), ?_, by simp [VR]⟩⟩
  have r1 := vrs1 hr
  simp only [VR] at r1
  simp [execOp, ho, r1, Op.unary, Op.intArith]

theorem convert_ok (s d : TypeId) (x : Operand) : PureOk P (.convert s d x) (pureC P (.convert s d x)) := by
  unfold pureC
  simp only
  cases hs : P.underlying s with
  | none => exact pureBad_ok _
  | some S => cases hd' : P.underlying d with
    | none => cases S <;> exact pureBad_ok _
    | some D =>
      cases S <;> (try exact pureBad_ok _)
      case int j =>
        cases D <;> (try exact pureBad_ok _)
        case int i =>
          intro vs k h
          obtain ⟨v, r, rfl, h1⟩ := one_of h
          obtain ⟨i', n, rfl, h2⟩ := asI_of h1
          refine ⟨_, wrapK_of h2, fun φ ρ o w ho hr => ⟨.int i (i.wrap n), ?_, by simp [VR]⟩⟩
          have r1 := vrs1 hr
          simp only [VR] at r1
          simp [execOp, ho, r1, convert, run_underlying hs, run_underlying hd', Conv.intToInt]
      case string =>
        cases D <;> (try exact pureBad_ok _)
        case string =>
          intro vs k h
          obtain ⟨v, r, rfl, h1⟩ := one_of h
          obtain ⟨l, rfl, h2⟩ := asS_of h1
          refine ⟨_, h2, fun φ ρ o w ho hr => ?_⟩
          have r1 := vrs1 hr
          simp only [VR] at r1
          obtain ⟨t, e, f⟩ := r1
          exact ⟨.string t, by simp [execOp, ho, e, convert, run_underlying hs, run_underlying hd'], by simp only [VR]; exact ⟨t, rfl, f⟩⟩

theorem makeInterface_ok (t : TypeId) (x : Operand) : PureOk P (.makeInterface t x) (pureC P (.makeInterface t x)) := by
  unfold pureC
  simp only
  cases hu : P.underlying t with
  | none => exact pureBad_ok _
  | some D =>
    by_cases hd' : ∃ ms, D = .interface ms
    · obtain ⟨ms, rfl⟩ := hd'; exact pureBad_ok _
    · have : PureOk P (.makeInterface t x) ⟨fun vs c => one vs fun x => c (.ifc t x)⟩ := fun vs k h => by
        obtain ⟨v, r, rfl, h1⟩ := one_of h
        refine ⟨_, h1, fun φ ρ o w ho hr => ⟨.iface t (ρ x), ?_, by simp only [VR]; exact ⟨_, rfl, vrs1 hr⟩⟩⟩
        simp only [execOp, ho]
        apply exec_v
        simp only [Instr.makeInterface, Sem.run_bind, run_underlying hu, Result.andThen_ok]
        cases D <;> first | rfl | exact absurd ⟨_, rfl⟩ hd'
      cases D <;> first | exact absurd ⟨_, rfl⟩ hd' | exact this

theorem makeFunc_ok (f : Fn) (first captured : Array Operand) : PureOk P (.makeFunc f first captured) (pureC P (.makeFunc f first captured)) := fun vs k h => by
  obtain ⟨h1, h2⟩ := takeK_of h
  obtain ⟨h3, h4⟩ := dropK_of h2
  refine ⟨_, h4, fun φ ρ o w ho hr => ⟨.func f (first.map ρ) (captured.map ρ), by simp [execOp, ho, Instr.makeFunc], ?_⟩⟩
  simp only [VR]
  refine ⟨_, _, rfl, ?_, ?_⟩
  · have := VRs.take first.size hr
    simpa [Op.operands] using this
  · have := VRs.drop first.size hr
    simpa [Op.operands] using this

theorem fieldOf_of {s : TypeId} {f : Nat} {a : Bool} {n off : Nat} (h : fieldOf P s f = some (a, n, off)) :
    ∃ (fs : Array Field) (x : Field), P.underlying s = some (.struct fs) ∧ fs[f]? = some x ∧ isAggT P x.type = some a ∧ szT P x.type = some n ∧ x.offset = off := by
  unfold fieldOf at h
  cases hu : P.underlying s with
  | none => rw [hu] at h; cases h
  | some D =>
    rw [hu] at h
    cases D <;> simp only at h <;> (try (cases h; done))
    case struct fs =>
      cases hf : fs[f]? with
      | none => rw [hf] at h; cases h
      | some x =>
        rw [hf] at h
        simp only at h
        cases ha : isAggT P x.type with
        | none => rw [ha] at h; cases h
        | some a' => cases hn : szT P x.type with
          | none => rw [ha, hn] at h; cases h
          | some n' =>
            rw [ha, hn] at h
            simp only [Option.some.injEq, Prod.mk.injEq] at h
            obtain ⟨rfl, rfl, rfl⟩ := h
            exact ⟨fs, x, rfl, hf, ha, hn, rfl⟩

theorem addr_add (b o n : Nat) : (⟨b, o, none⟩ : Addr).add n = ⟨b, o + n, none⟩ := by
  unfold Addr.add
  split
  · subst_vars; rfl
  · rfl

theorem fieldAddr_ok (s : TypeId) (x : Operand) (f : Nat) : PureOk P (.fieldAddr s x f) (pureC P (.fieldAddr s x f)) := by
  unfold pureC
  simp only
  cases hf : fieldOf P s f with
  | none => exact pureBad_ok _
  | some q =>
    obtain ⟨a, n, off⟩ := q
    cases n with
    | zero => exact pureBad_ok _
    | succ n =>
      intro vs k h
      obtain ⟨fs, fd, hu, hx, ha, hn, ho⟩ := fieldOf_of hf
      obtain ⟨v, r, rfl, h1⟩ := one_of h
      obtain ⟨id, o, rfl, h2⟩ := asP_of h1
      rw [fNat_eq] at h2
      refine ⟨_, h2, fun φ ρ oo w hoo hr => ?_⟩
      have r1 := vrs1 hr
      simp only [VR] at r1
      obtain ⟨b, base, room, e, ev⟩ := r1
      refine ⟨.pointer (some ⟨b, base + o + off, none⟩), ?_, by simp only [VR]; exact ⟨b, base, room, e, by rw [Nat.add_assoc]⟩⟩
      simp [execOp, hoo, ev, Instr.fieldAt, run_underlying hu, hx, Instr.sureAddr, fieldPlace, run_sizeOf_of hn, addr_add, ho]

theorem field_ok (s : TypeId) (x : Operand) (f : Nat) : PureOk P (.field s x f) (pureC P (.field s x f)) := by
  unfold pureC
  simp only
  cases hf : fieldOf P s f with
  | none => exact pureBad_ok _
  | some q =>
    obtain ⟨a, n, off⟩ := q
    intro vs k h
    obtain ⟨fs, fd, hu, hx, ha, hn, ho⟩ := fieldOf_of hf
    obtain ⟨v, r, rfl, h1⟩ := one_of h
    obtain ⟨l, rfl, h2⟩ := asA_of h1
    have key : ∃ v, k v = true ∧ ((a = true ∧ off + n ≤ l.length ∧ v = .agg ((l.drop off).take n)) ∨ (a = false ∧ l[off]? = some v)) := by
      rcases partK_of h2 with ⟨rfl, hle, hk⟩ | ⟨rfl, v, hv, hk⟩
      · exact ⟨_, hk, .inl ⟨rfl, hle, rfl⟩⟩
      · exact ⟨v, hk, .inr ⟨rfl, hv⟩⟩
    obtain ⟨v, hk, hv⟩ := key
    refine ⟨v, hk, fun φ ρ oo w hoo hr => ?_⟩
    have r1 := vrs1 hr
    simp only [VR] at r1
    obtain ⟨cs, ev, r2, r3⟩ := r1
    obtain ⟨cv, e1, e2⟩ := run_part_at ha hn r2 r3 hv w
    refine ⟨cv, ?_, e2⟩
    simp only [execOp, hoo]
    apply exec_v
    simp only [Instr.field, Sem.run_bind, run_underlying hu, Result.andThen_ok, hx, ev, asAgg, Sem.run_pure, ho, e1]

theorem idxK_of {v : AV} {len : Nat} {k : Nat → Bool} (h : idxK v len k = true) : ∃ (i : IntKind) (m : Nat), v = .i i (.ofNat m) ∧ m < len ∧ k m = true := by
  obtain ⟨i, n, rfl, h1⟩ := asI_of h
  cases n with
  | negSucc m => cases h1
  | ofNat m =>
    obtain ⟨h2, h3⟩ := wK_of h1
    exact ⟨i, m, rfl, nble_of h2, h3⟩

theorem boundK_of {v : AV} {y : Nat} {k : Nat → Bool} (h : boundK v y k = true) : ∃ (i : IntKind) (m : Nat), v = .i i (.ofNat m) ∧ m ≤ y ∧ k m = true := by
  obtain ⟨i, n, rfl, h1⟩ := asI_of h
  cases n with
  | negSucc m => cases h1
  | ofNat m =>
    obtain ⟨h2, h3⟩ := wK_of h1
    exact ⟨i, m, rfl, nble_of h2, h3⟩

theorem indexAddr_ok (t : TypeId) (x ix : Operand) : PureOk P (.indexAddr t x ix) (pureC P (.indexAddr t x ix)) := by
  unfold pureC
  simp only
  cases hu : P.underlying t with
  | none => exact pureBad_ok _
  | some D =>
    cases D <;> simp only <;> (try exact pureBad_ok _)
    case array m e =>
      cases hn : szT P e with
      | none => exact pureBad_ok _
      | some sz =>
        intro vs k h
        obtain ⟨a, b, r, rfl, h1⟩ := duo_of h
        obtain ⟨id, off, rfl, h2⟩ := asP_of h1
        obtain ⟨i, j, rfl, hj, h3⟩ := idxK_of h2
        rw [fNat_eq] at h3
        refine ⟨_, h3, fun φ ρ o w ho hr => ?_⟩
        obtain ⟨r1, r2⟩ := vrs2 hr
        simp only [VR] at r1 r2
        obtain ⟨bb, base, room, e1, ev⟩ := r1
        refine ⟨.pointer (some ⟨bb, base + off + j * sz, none⟩), ?_, by simp only [VR]; exact ⟨bb, base, room, e1, by rw [Nat.add_assoc]⟩⟩
        simp [execOp, ho, ev, r2, Instr.indexAt, asIntOf, run_underlying hu, Instr.sureAddr, hj, run_sizeOf_of hn, addr_add]
    case slice e =>
      cases hn : szT P e with
      | none => exact pureBad_ok _
      | some sz =>
        intro vs k h
        obtain ⟨a, b, r, rfl, h1⟩ := duo_of h
        rcases asSl_of h1 with ⟨_, h2⟩ | ⟨id, off, len, cap, esz, rfl, h2⟩
        · cases h2
        · obtain ⟨hz, h3⟩ := wK_of h2
          have := nbeq_of hz
          subst this
          obtain ⟨i, j, rfl, hj, h4⟩ := idxK_of h3
          rw [fNat_eq] at h4
          refine ⟨_, h4, fun φ ρ o w ho hr => ?_⟩
          obtain ⟨r1, r2⟩ := vrs2 hr
          simp only [VR] at r1 r2
          obtain ⟨bb, base, room, ad, cc, e1, ev, hl, hcc, _⟩ := r1
          obtain ⟨rfl, _⟩ := hcc (by omega)
          refine ⟨.pointer (some ⟨bb, base + off + j * sz, none⟩), ?_, by simp only [VR]; exact ⟨bb, base, room, e1, by rw [Nat.add_assoc]⟩⟩
          simp [execOp, ho, ev, r2, Instr.indexAt, asIntOf, run_underlying hu, hj, run_sizeOf_of hn, addr_add]

theorem index_ok (t : TypeId) (x ix : Operand) : PureOk P (.index t x ix) (pureC P (.index t x ix)) := by
  unfold pureC
  simp only
  cases hu : P.underlying t with
  | none => exact pureBad_ok _
  | some D =>
    cases D <;> simp only <;> (try exact pureBad_ok _)
    case string =>
      intro vs k h
      obtain ⟨a, b, r, rfl, h1⟩ := duo_of h
      obtain ⟨l, rfl, h2⟩ := asS_of h1
      obtain ⟨i, n, rfl, h3⟩ := asI_of h2
      cases n with
      | negSucc m => cases h3
      | ofNat m =>
        obtain ⟨c, hc, h4⟩ := nthK_of h3
        rw [fNat_eq] at h4
        refine ⟨_, h4, fun φ ρ o w ho hr => ⟨.int .u8 (.ofNat c), ?_, by simp [VR]⟩⟩
        obtain ⟨r1, r2⟩ := vrs2 hr
        simp only [VR] at r1 r2
        obtain ⟨s, ev, rfl⟩ := r1
        have hb : ∃ u : UInt8, s[m]? = some u ∧ u.toNat = c := by
          simp only [bytesOfBA, List.getElem?_map, Option.map_eq_some_iff] at hc
          obtain ⟨u, hu1, hu2⟩ := hc
          refine ⟨u, ?_, hu2⟩
          have : s.data[m]? = some u := by simpa using hu1
          obtain ⟨hlt, hval⟩ := Array.getElem?_eq_some_iff.1 this
          have hlt' : m < s.size := hlt
          rw [getElem?_pos s m hlt']
          exact congrArg some hval
        obtain ⟨u, hu1, hu2⟩ := hb
        simp [execOp, ho, ev, r2, Instr.index, asIntOf, run_underlying hu, hu1, hu2]
    case array m e =>
      cases ha : isAggT P e with
      | none => exact pureBad_ok _
      | some a => cases hn : szT P e with
        | none => exact pureBad_ok _
        | some sz =>
          intro vs k h
          obtain ⟨y, z, r, rfl, h1⟩ := duo_of h
          obtain ⟨l, rfl, h2⟩ := asA_of h1
          obtain ⟨i, j, rfl, hj, h3⟩ := idxK_of h2
          have key : ∃ v, k v = true ∧ ((a = true ∧ j * sz + sz ≤ l.length ∧ v = .agg ((l.drop (j * sz)).take sz)) ∨ (a = false ∧ l[j * sz]? = some v)) := by
            rcases partK_of h3 with ⟨rfl, hle, hk⟩ | ⟨rfl, v, hv, hk⟩
            · exact ⟨_, hk, .inl ⟨rfl, hle, rfl⟩⟩
            · exact ⟨v, hk, .inr ⟨rfl, hv⟩⟩
          obtain ⟨v, hk, hv⟩ := key
          refine ⟨v, hk, fun φ ρ o w ho hr => ?_⟩
          obtain ⟨r1, r2⟩ := vrs2 hr
          simp only [VR] at r1 r2
          obtain ⟨cs, ev, g1, g2⟩ := r1
          obtain ⟨cv, e1, e2⟩ := run_part_at ha hn g1 g2 hv w
          refine ⟨cv, ?_, e2⟩
          simp only [execOp, ho]
          apply exec_v
          simp only [Instr.index, Sem.run_bind, r2, asIntOf, Sem.run_pure, Result.andThen_ok, run_underlying hu, ev]
          rw [if_pos ⟨by simp, by simpa using hj⟩]
          simp only [Sem.run_bind, run_sizeOf_of hn, Result.andThen_ok]
          simpa using e1

theorem typeAssert_ok (x : Operand) (s t : TypeId) (ok : Bool) : PureOk P (.typeAssert x s t ok) (pureC P (.typeAssert x s t ok)) := by
  unfold pureC
  simp only
  cases hu : P.underlying t with
  | none => exact pureBad_ok _
  | some D =>
    by_cases hd' : ∃ ms, D = .interface ms
    · obtain ⟨ms, rfl⟩ := hd'; exact pureBad_ok _
    · have run_no : ∀ (w : World) (u : TypeId) (v : Value), (Instr.typeAssert (.iface u v) s t ok).run P w = (if u = t then (pure (if ok then .tuple #[v, .bool true] else v) : Sem Value) else
          (if ok then do pure (.tuple #[← zeroValue t, .bool false]) else runtimePanic (.typeAssertion (some s) (some u) t ""))).run P w := by
        intro w u v
        simp only [Instr.typeAssert, Sem.run_bind, run_underlying hu, Result.andThen_ok]
        cases D <;> first | exact absurd ⟨_, rfl⟩ hd' | rfl
      have key : PureOk P (.typeAssert x s t ok) (assertC P t ok) := by
        unfold assertC
        cases ok with
        | true =>
          simp only
          cases hz : zeroT P t with
          | none => exact pureBad_ok _
          | some z =>
            intro vs k h
            obtain ⟨v, r, rfl, h1⟩ := one_of h
            obtain ⟨u, y, rfl, h2⟩ := asIf_of h1
            rcases bK_of h2 with ⟨hb, h3⟩ | ⟨hb, h3⟩
            · have := nbeq_of hb
              subst this
              refine ⟨_, h3, fun φ ρ o w ho hr => ?_⟩
              have r1 := vrs1 hr
              simp only [VR] at r1
              obtain ⟨y', ev, ry⟩ := r1
              refine ⟨.tuple #[y', .bool true], ?_, ?_⟩
              · simp only [execOp, ho, ev]
                apply exec_v
                rw [run_no]
                simp
              · simp only [VR]
                exact ⟨_, rfl, VRs.cons ry (VRs.cons (by simp [VR]) VRs.nil)⟩
            · have hne : u ≠ t := fun e => by subst e; simp at hb
              refine ⟨_, h3, fun φ ρ o w ho hr => ?_⟩
              have r1 := vrs1 hr
              simp only [VR] at r1
              obtain ⟨y', ev, ry⟩ := r1
              obtain ⟨zv, ez, rz⟩ := run_zero_of (φ := φ) hz w
              refine ⟨.tuple #[zv, .bool false], ?_, ?_⟩
              · simp only [execOp, ho, ev]
                apply exec_v
                rw [run_no]
                simp [hne, ez]
              · simp only [VR]
                exact ⟨_, rfl, VRs.cons rz (VRs.cons (by simp [VR]) VRs.nil)⟩
        | false =>
          intro vs k h
          obtain ⟨v, r, rfl, h1⟩ := one_of h
          obtain ⟨u, y, rfl, h2⟩ := asIf_of h1
          obtain ⟨hb, h3⟩ := wK_of h2
          have := nbeq_of hb
          subst this
          refine ⟨_, h3, fun φ ρ o w ho hr => ?_⟩
          have r1 := vrs1 hr
          simp only [VR] at r1
          obtain ⟨y', ev, ry⟩ := r1
          refine ⟨y', ?_, ry⟩
          simp only [execOp, ho, ev]
          apply exec_v
          rw [run_no]
          simp
      cases D <;> first | exact absurd ⟨_, rfl⟩ hd' | exact key

theorem extract_ok (x : Operand) (j : Nat) : PureOk P (.extract x j) (pureC P (.extract x j)) := fun vs k h => by
  obtain ⟨v, r, rfl, h1⟩ := one_of h
  obtain ⟨l, rfl, h2⟩ := asT_of h1
  obtain ⟨a, ha, h3⟩ := nthK_of h2
  refine ⟨a, h3, fun φ ρ o w ho hr => ?_⟩
  have r1 := vrs1 hr
  simp only [VR] at r1
  obtain ⟨cs, ev, r2⟩ := r1
  obtain ⟨cv, e1, e2⟩ := r2.get ha
  have : cs[j]? = some cv := by simpa using e1
  exact ⟨cv, by simp [execOp, ho, ev, Instr.extract, this], e2⟩

end
end Go.Am
