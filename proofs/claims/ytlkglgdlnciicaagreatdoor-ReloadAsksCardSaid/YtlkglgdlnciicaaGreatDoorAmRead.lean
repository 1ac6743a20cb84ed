/- Operations that read the heap are sound. -/
import Derived.Test.YtlkglgdlnciicaaGreatDoorAmOps5
import Derived.Laws.BytesString
import Derived.Lib.UnsafeStr
import Derived.MapKept
set_option linter.all false
namespace Go.Am
open Go

section
variable {P : Program}

def ReadOk (P : Program) (op : Op) (f : ReadC) : Prop :=
  ∀ vs h k, f.run vs h k = true → ∃ v, k v = true ∧ ∀ (φ : Phi) (n : Pos) (ρ : Operand → Value) (o : Oper) (w : World), o.op = op → HRel P φ h n w → VRs φ vs (op.operands.toList.map ρ) →
    ∃ cv, (execOp ρ o).run P w = .ok (.value cv) w ∧ VR φ v cv

theorem readBad_ok (op : Op) : ReadOk P op readBad := fun _ _ _ h => by cases h

/-- cells, to be read at least -/
def CellsAt (h : Hp) (id : Pos) (e : TypeId) (l : List AV) : Prop := PT.get id h = some (.cells e l) ∨ PT.get id h = some (.ro e l)
theorem cellsK_of {h : Hp} {id : Pos} {k : TypeId → List AV → Bool} (hc : cellsK h id k = true) : ∃ e l, CellsAt h id e l ∧ k e l = true := by
  obtain ⟨b, hb, h1⟩ := getK_of hc
  cases b with
  | cells e l => exact ⟨e, l, .inl hb, h1⟩
  | ro e l => exact ⟨e, l, .inr hb, h1⟩
  | mp es => cases h1
theorem cellsWK_of {h : Hp} {id : Pos} {k : TypeId → List AV → Bool} (hc : cellsWK h id k = true) : ∃ e l, PT.get id h = some (.cells e l) ∧ k e l = true := by
  obtain ⟨b, hb, h1⟩ := getK_of hc
  cases b with
  | cells e l => exact ⟨e, l, hb, h1⟩
  | ro e l => cases h1
  | mp es => cases h1
theorem mapK_of {h : Hp} {id : Pos} {k : List (AV × AV) → Bool} (hc : mapK h id k = true) : ∃ es, PT.get id h = some (.mp es) ∧ k es = true := by
  obtain ⟨b, hb, h1⟩ := getK_of hc
  cases b with
  | cells e l => cases h1
  | ro e l => cases h1
  | mp es => exact ⟨es, hb, h1⟩

/-- the cells of a block that may be written, in the world -/
theorem cells_atW {φ : Phi} {h : Hp} {n : Pos} {w : World} (hr : HRel P φ h n w) {id : Pos} {e : TypeId} {l : List AV} (hg : PT.get id h = some (.cells e l)) {b base room : Nat} (hφ : φ id = some (b, base, room)) :
    ∃ c : Array Value, w.heap[b]? = some (.cells c e (0, 0)) ∧ base + room = c.size ∧ l.length ≤ room ∧ VRs φ l ((c.toList.drop base).take l.length) ∧ (∀ x ∈ l, x.flat = true) ∧ (∀ s, szT P e = some s → base % s = 0) := by
  obtain ⟨b', base', room', c, e1, e2, e3, e4, e5, e6, e7⟩ : CR P φ w id e l := hr.blk id _ hg
  rw [hφ] at e1
  simp only [Option.some.injEq, Prod.mk.injEq] at e1
  obtain ⟨rfl, rfl, rfl⟩ := e1
  exact ⟨c, e2, e3, e4, e5, e6, e7⟩

/-- the cells of a block, in the world -/
theorem cells_at {φ : Phi} {h : Hp} {n : Pos} {w : World} (hr : HRel P φ h n w) {id : Pos} {e : TypeId} {l : List AV} (hg : CellsAt h id e l) {b base room : Nat} (hφ : φ id = some (b, base, room)) :
    ∃ (c : Array Value) (u : TypeId) (fr : Nat × Nat), w.heap[b]? = some (.cells c u fr) ∧ base + room ≤ c.size ∧ l.length ≤ room ∧ VRs φ l ((c.toList.drop base).take l.length) ∧ ∀ x ∈ l, x.flat = true := by
  rcases hg with hg | hg
  · obtain ⟨c, e1, e2, e3, e4, e5, _⟩ := cells_atW hr hg hφ
    exact ⟨c, e, (0, 0), e1, Nat.le_of_eq e2, e3, e4, e5⟩
  · obtain ⟨b', base', room', c, u, fr, e1, e2, e3, e4, e5, e6⟩ : RR φ w id l := hr.blk id _ hg
    rw [hφ] at e1
    simp only [Option.some.injEq, Prod.mk.injEq] at e1
    obtain ⟨rfl, rfl, rfl⟩ := e1
    exact ⟨c, u, fr, e2, e3, e4, e5, e6⟩

theorem map_at {φ : Phi} {h : Hp} {n : Pos} {w : World} (hr : HRel P φ h n w) {id : Pos} {es : List (AV × AV)} (hg : PT.get id h = some (.mp es)) {b base room : Nat} (hφ : φ id = some (b, base, room)) :
    ∃ (c : Array MapEntry) (clock : Nat), w.heap[b]? = some (.map c clock) ∧ ERs φ es c.toList := by
  obtain ⟨b', base', room', c, k, e1, e2, e3⟩ := hr.blk id _ hg
  rw [hφ] at e1
  simp only [Option.some.injEq, Prod.mk.injEq] at e1
  obtain ⟨rfl, rfl, rfl⟩ := e1
  exact ⟨c, k, e2, e3⟩

/-- loading some cells -/
theorem run_loadCells_of {w : World} {b base off n : Nat} {c : Array Value} {e : TypeId} {fr : Nat × Nat} (hb : w.heap[b]? = some (.cells c e fr)) (hn : base + off + n ≤ c.size) :
    (loadCells ⟨b, base + off, none⟩ n).run P w = .ok (((c.toList.drop base).drop off).take n).toArray w := by
  have hlen : (((c.toList.drop base).drop off).take n).length = n := by simp; omega
  have := run_loadCells_list (P := P) (w := w) ⟨b, base + off, none⟩ (((c.toList.drop base).drop off).take n) (fun j v hj => by
    rw [addr_add, cell_of_row w b _ c e fr hb]
    rw [List.getElem?_take, List.getElem?_drop, List.getElem?_drop] at hj
    split at hj
    · rw [← Array.getElem?_toList, ← hj]
      congr 1
      omega
    · cases hj)
  rw [hlen] at this
  exact this

theorem VRs_cut {φ : Phi} {l : List AV} {c : List Value} (hr : VRs φ l (c.take l.length)) {off n : Nat} (h : off + n ≤ l.length) : VRs φ ((l.drop off).take n) ((c.drop off).take n) := by
  have := VRs.take n (VRs.drop off hr)
  rw [List.drop_take, List.take_take] at this
  rwa [Nat.min_eq_left (by omega)] at this

theorem loadK_of {h : Hp} {t : TypeId} {a : Bool} {n : Nat} (ha : isAggT P t = some a) (hn : szT P t = some n) {id : Pos} {off : Nat} {k : AV → Bool} (hl : loadK a n h id off k = true) :
    ∃ v, k v = true ∧ ∀ (φ : Phi) (nx : Pos) (w : World) (b base room : Nat), HRel P φ h nx w → φ id = some (b, base, room) → ∃ cv, (loadVar t ⟨b, base + off, none⟩).run P w = .ok cv w ∧ VR φ v cv := by
  obtain ⟨e, l, hg, h1⟩ := cellsK_of hl
  rcases partK_of h1 with ⟨rfl, hle, hk⟩ | ⟨rfl, v, hv, hk⟩
  · refine ⟨_, hk, fun φ nx w b base room hr hφ => ?_⟩
    obtain ⟨c, cu, cf, e1, e2, e3, e4, e5⟩ := cells_at hr hg hφ
    refine ⟨.agg (((c.toList.drop base).drop off).take n).toArray, ?_, ?_⟩
    · simp [loadVar, run_isAgg_of ha, run_sizeOf_of hn, run_loadCells_of (P := P) e1 (show base + off + n ≤ c.size by omega)]
    · simp only [VR]
      exact ⟨_, rfl, by simpa using VRs_cut e4 hle, flat_take e5 _ _⟩
  · refine ⟨v, hk, fun φ nx w b base room hr hφ => ?_⟩
    obtain ⟨c, cu, cf, e1, e2, e3, e4, e5⟩ := cells_at hr hg hφ
    obtain ⟨cv, hcv, hvr⟩ := e4.get hv
    have hoff := (List.getElem?_eq_some_iff.1 hv).1
    have hcell : w.cell? ⟨b, base + off, none⟩ = some cv := by
      rw [cell_of_row w b _ c cu cf e1, ← Array.getElem?_toList]
      rw [List.getElem?_take, List.getElem?_drop, if_pos hoff] at hcv
      exact hcv
    exact ⟨cv, by simp [loadVar, run_isAgg_of ha, hcell], hvr⟩

theorem load_ok (t : TypeId) (x : Operand) : ReadOk P (.load t x) (readC P (.load t x)) := by
  unfold readC
  simp only
  cases ha : isAggT P t with
  | none => exact readBad_ok _
  | some a => cases hn : szT P t with
    | none => exact readBad_ok _
    | some n =>
      intro vs h k hk
      obtain ⟨v, r, rfl, h1⟩ := one_of hk
      obtain ⟨id, off, rfl, h2⟩ := asP_of h1
      obtain ⟨v, hv, hrun⟩ := loadK_of (P := P) ha hn h2
      refine ⟨v, hv, fun φ nx ρ o w ho hr hvr => ?_⟩
      have r1 := vrs1 hvr
      simp only [VR] at r1
      obtain ⟨b, base, room, e1, ev⟩ := r1
      obtain ⟨cv, e2, e3⟩ := hrun φ nx w b base room hr e1
      exact ⟨cv, by simp [execOp, ho, ev, Instr.loadAt, Instr.sureAddr, e2], e3⟩

/-! maps -/
/-- keys that need no look -/
def KeyOk (P : Program) (d : Nat) (t : TypeId) (f : KeyC) : Prop :=
  ∀ x, f.run x = true → ∀ (φ : Phi) (cx : Value) (D : Nat) (em : Bool) (w : World), VR φ x cx → d ≤ D → (Instr.checkKey em D t cx).run P w = .ok () w

theorem keyC_ok : ∀ (d : Nat) (t : TypeId), KeyOk P d t (keyC P d t) := by
  intro d
  induction d with
  | zero => intro t x h; cases h
  | succ d ih =>
    intro t x h φ cx D em w hr hD
    obtain ⟨D, rfl⟩ : ∃ D', D = D' + 1 := ⟨D - 1, by omega⟩
    unfold keyC at h
    cases hu : P.underlying t with
    | none => rw [hu] at h; cases h
    | some T =>
      rw [hu] at h
      cases T <;> simp only at h <;> (try (cases h; done))
      case int j =>
        obtain ⟨i, n, rfl, _⟩ := asI_of h
        simp only [VR] at hr
        subst hr
        simp [Instr.checkKey, run_underlying hu]
      case string =>
        obtain ⟨l, rfl, _⟩ := asS_of h
        simp only [VR] at hr
        obtain ⟨s, rfl, _⟩ := hr
        simp [Instr.checkKey, run_underlying hu]
      case bool =>
        obtain ⟨b, rfl, _⟩ := asB_of h
        simp only [VR] at hr
        subst hr
        simp [Instr.checkKey, run_underlying hu]
      case struct fs =>
        cases hf : keyFieldsOf (keyC P d) P fs.toList with
        | none => rw [hf] at h; cases h
        | some cs =>
          rw [hf] at h
          obtain ⟨l, rfl, h1⟩ := asA_of h
          simp only [VR] at hr
          obtain ⟨c, rfl, r1, r2⟩ := hr
          have key : ∀ (gs : List Field) (cs : List (Bool × Nat × Nat × KeyC)), keyFieldsOf (keyC P d) P gs = some cs → keyFields cs l = true →
              (forIn gs () (fun (f : Field) (_ : Unit) => do
                if f.name ≠ "_" then Instr.checkKey em D f.type (← part f.type c f.offset)
                pure (ForInStep.yield ())) : Sem Unit).run P w = .ok () w := by
            intro gs
            induction gs with
            | nil => intro cs _ _; simp
            | cons f gs ihg =>
              intro cs hcs hk
              simp only [keyFieldsOf] at hcs
              cases ha : isAggT P f.type with
              | none => simp [ha] at hcs
              | some a => cases hn : szT P f.type with
                | none => simp [ha, hn] at hcs
                | some n => cases hg : keyFieldsOf (keyC P d) P gs with
                  | none => simp [ha, hn, hg] at hcs
                  | some r =>
                    simp only [ha, hn, hg, Option.some.injEq] at hcs
                    subst hcs
                    have hk' : partK a n l f.offset (fun x => wK ((keyC P d f.type).run x) (keyFields r l)) = true := hk
                    have fin : ∃ v, ((a = true ∧ f.offset + n ≤ l.length ∧ v = .agg ((l.drop f.offset).take n)) ∨ (a = false ∧ l[f.offset]? = some v)) ∧ (keyC P d f.type).run v = true ∧ keyFields r l = true := by
                      rcases partK_of hk' with ⟨rfl, hle, hk2⟩ | ⟨rfl, v, hv, hk2⟩
                      · exact ⟨_, .inl ⟨rfl, hle, rfl⟩, wK_of hk2⟩
                      · exact ⟨v, .inr ⟨rfl, hv⟩, wK_of hk2⟩
                    obtain ⟨v, hv, hkey, hrest⟩ := fin
                    obtain ⟨cv, e1, e2⟩ := run_part_at ha hn r1 r2 hv w
                    have e3 := ih f.type v hkey φ cv D em w e2 (by omega)
                    have e4 := ihg r hg hrest
                    rw [List.forIn_cons]
                    by_cases hne : f.name = "_"
                    · simp only [hne, ne_eq, not_true_eq_false, if_false, Sem.run_bind, Sem.run_pure, Result.andThen_ok]
                      simpa using e4
                    · simp only [ne_eq, hne, not_false_eq_true, if_true, Sem.run_bind, e1, Result.andThen_ok, e3, Sem.run_pure]
                      simpa using e4
          have := key fs.toList cs hf h1
          simp only [Instr.checkKey, Sem.run_bind, run_underlying hu, Result.andThen_ok]
          rw [← Array.forIn_toList]
          simp at this ⊢
          rw [this]
          rfl


/-- what is told of the equality of two values of a type -/
def Says (P : Program) (t : TypeId) (x y : AV) (r : Bool) : Prop :=
  ∀ (φ : Phi) (cx cy : Value) (w : World), VR φ x cx → VR φ y cy → (Op.equal t cx cy).run P w = .ok r w

theorem eqC_says {t : TypeId} {x y : AV} {k : Bool → Bool} (h : (eqC P 20 t).run x y k = true) : ∃ r, k r = true ∧ Says P t x y r := by
  obtain ⟨r, hr, hrun⟩ := eqC_ok (P := P) 20 t x y k h
  exact ⟨r, hr, fun φ cx cy w hx hy => hrun φ cx cy 10000 w hx hy (by decide)⟩

theorem findK_of {t : TypeId} {key : AV} : ∀ (es : List (AV × AV)) (j : Nat) (yes : Nat → AV → Bool) (no : Unit → Bool), findK (eqC P 20 t) key es j yes no = true →
    (∃ i x v, es[i]? = some (x, v) ∧ yes (j + i) v = true ∧ Says P t key x true ∧ ∀ (i' : Nat), i' < i → ∀ (y : AV × AV), es[i']? = some y → Says P t key y.1 false) ∨
    (no () = true ∧ ∀ (i : Nat) (y : AV × AV), es[i]? = some y → Says P t key y.1 false) := by
  intro es
  induction es with
  | nil => intro j yes no h; exact .inr ⟨h, by simp⟩
  | cons e es ih =>
    intro j yes no h
    have h' : (eqC P 20 t).run key e.1 (fun r => bK r (yes j e.2) (findK (eqC P 20 t) key es (Nat.succ j) yes no)) = true := h
    obtain ⟨r, hr, hs⟩ := eqC_says h'
    rcases bK_of hr with ⟨rfl, h1⟩ | ⟨rfl, h1⟩
    · exact .inl ⟨0, e.1, e.2, rfl, h1, hs, by simp⟩
    · rcases ih (j + 1) yes no h1 with ⟨i, x, v, e1, e2, e3, e4⟩ | ⟨e1, e2⟩
      · refine .inl ⟨i + 1, x, v, by simpa using e1, by rw [show j + (i + 1) = j + 1 + i from by omega]; exact e2, e3, fun i' hi' y hy => ?_⟩
        cases i' with
        | zero => simp at hy; subst hy; exact hs
        | succ i' => exact e4 i' (by omega) y (by simpa using hy)
      · refine .inr ⟨e1, fun i y hy => ?_⟩
        cases i with
        | zero => simp at hy; subst hy; exact hs
        | succ i => exact e2 i y (by simpa using hy)

theorem sameNow_equal {D : TypeDesc} {t : TypeId} (hu : P.underlying t = some D) {a b : Value} {r : Bool} (h : Instr.sameNow D a b = some r) (w : World) : (Op.equal t a b).run P w = .ok r w := by
  unfold Instr.sameNow at h
  split at h
  · split at h
    · rename_i hk
      injection h with h
      subst hk h
      exact run_equalIn_int w 9999 t _ _ _ _ hu
    · cases h
  · injection h with h
    subst h
    rw [show Op.equal t _ _ = Op.equalIn (9999 + 1) t _ _ from rfl, run_equalIn_string w 9999 t _ _ hu, beq_toListBytes]
  · injection h with h
    subst h
    exact run_equalIn_bool w 9999 t _ _ hu
  · cases h

theorem findNow_asking {D : TypeDesc} {t : TypeId} (hu : P.underlying t = some D) {key : Value} (w : World) : ∀ (es : List MapEntry) (j : Nat) (r : Option (Nat × Value)), Instr.findNow D key es j = some r →
    (Instr.findAsking t key es j).run P w = .ok r w := by
  intro es
  induction es with
  | nil => intro j r h; simp [Instr.findNow] at h; subst h; simp [Instr.findAsking]
  | cons e es ih =>
    intro j r h
    simp only [Instr.findNow] at h
    cases hs : Instr.sameNow D key e.key with
    | none => rw [hs] at h; cases h
    | some b =>
      rw [hs] at h
      have he := sameNow_equal hu hs w
      cases b with
      | true => simp at h; subst h; simp [Instr.findAsking, he]
      | false => simp [Instr.findAsking, he]; exact ih _ _ h

theorem findKey_asking {t : TypeId} {D : TypeDesc} (hu : P.underlying t = some D) (key : Value) (es : List MapEntry) (w : World) : (Instr.findKey t key es).run P w = (Instr.findAsking t key es).run P w := by
  simp only [Instr.findKey, Sem.run_bind, run_underlying hu, Result.andThen_ok]
  cases hn : Instr.findNow D key es 0 with
  | none => rfl
  | some r => simp only [Sem.run_pure]; exact (findNow_asking hu w es 0 r hn).symm

theorem ERs.get {φ : Phi} : ∀ {l : List (AV × AV)} {es : List MapEntry} {i : Nat} {x v : AV}, ERs φ l es → l[i]? = some (x, v) → ∃ e, es[i]? = some e ∧ VR φ x e.key ∧ VR φ v e.val
  | [], _, i, _, _, _, e => by simp at e
  | _ :: _, [], _, _, _, r, _ => by simp [ERs] at r
  | (k, u) :: xs, e :: es, 0, x, v, r, h => by
    simp only [ERs] at r
    simp at h
    obtain ⟨rfl, rfl⟩ := h
    exact ⟨e, rfl, r.1, r.2.1⟩
  | (k, u) :: xs, e :: es, i + 1, x, v, r, h => by
    simp only [ERs] at r
    exact ERs.get (i := i) r.2.2 (by simpa using h)

theorem ERs.length {φ : Phi} : ∀ {l : List (AV × AV)} {es : List MapEntry}, ERs φ l es → l.length = es.length
  | [], [], _ => rfl
  | [], _ :: _, r => by simp [ERs] at r
  | _ :: _, [], r => by simp [ERs] at r
  | (_, _) :: _, _ :: _, r => by simp only [ERs] at r; simp [ERs.length r.2.2]

theorem asking_yes {φ : Phi} {t : TypeId} {key : AV} {ck : Value} (hk : VR φ key ck) (w : World) : ∀ (l : List (AV × AV)) (es : List MapEntry) (j i : Nat) (x v : AV), ERs φ l es → l[i]? = some (x, v) → Says P t key x true →
    (∀ (i' : Nat), i' < i → ∀ (y : AV × AV), l[i']? = some y → Says P t key y.1 false) → ∃ e, es[i]? = some e ∧ VR φ x e.key ∧ VR φ v e.val ∧ (Instr.findAsking t ck es j).run P w = .ok (some (j + i, e.val)) w := by
  intro l
  induction l with
  | nil => intro es j i x v _ h; simp at h
  | cons y l ih =>
    intro es j i x v hr h hyes hno
    cases es with
    | nil => simp [ERs] at hr
    | cons e es =>
      simp only [ERs] at hr
      cases i with
      | zero =>
        simp at h
        subst h
        refine ⟨e, rfl, hr.1, hr.2.1, ?_⟩
        simp [Instr.findAsking, hyes φ ck e.key w hk hr.1]
      | succ i =>
        obtain ⟨e', h1, h2, h3, h4⟩ := ih es (j + 1) i x v hr.2.2 (by simpa using h) hyes (fun i' hi' z hz => hno (i' + 1) (by omega) z (by simpa using hz))
        refine ⟨e', by simpa using h1, h2, h3, ?_⟩
        have := hno 0 (by omega) y (by simp) φ ck e.key w hk hr.1
        simp [Instr.findAsking, this, h4, show j + (i + 1) = j + 1 + i from by omega]

theorem asking_no {φ : Phi} {t : TypeId} {key : AV} {ck : Value} (hk : VR φ key ck) (w : World) : ∀ (l : List (AV × AV)) (es : List MapEntry) (j : Nat), ERs φ l es → (∀ (i : Nat) (y : AV × AV), l[i]? = some y → Says P t key y.1 false) →
    (Instr.findAsking t ck es j).run P w = .ok none w := by
  intro l
  induction l with
  | nil =>
    intro es j hr _
    cases es with
    | nil => simp [Instr.findAsking]
    | cons _ _ => simp [ERs] at hr
  | cons y l ih =>
    intro es j hr hno
    cases es with
    | nil => simp [ERs] at hr
    | cons e es =>
      simp only [ERs] at hr
      have := hno 0 y (by simp) φ ck e.key w hk hr.1
      simp [Instr.findAsking, this, ih es (j + 1) hr.2.2 (fun i z hz => hno (i + 1) z (by simpa using hz))]

theorem run_gmap {w : World} {b : Nat} {c : Array MapEntry} {clock : Nat} (hb : w.heap[b]? = some (.map c clock)) : (getObj b).run P w = .ok (.map c clock) w := by simp [getObj, Sem.run, hb]

theorem lookup_ok (t : TypeId) (x ix : Operand) (ok : Bool) : ReadOk P (.lookup t x ix ok) (readC P (.lookup t x ix ok)) := by
  unfold readC
  simp only
  cases hu : P.underlying t with
  | none => exact readBad_ok _
  | some T =>
    cases T <;> simp only <;> (try exact readBad_ok _)
    case map kt e =>
      cases hz : zeroT P e with
      | none => exact readBad_ok _
      | some z =>
        intro vs h k hk
        obtain ⟨m, key, r, rfl, h1⟩ := duo_of hk
        obtain ⟨hkey, h2⟩ := wK_of h1
        have found_of : ∀ (v : AV) (is : Bool), readC.found ok v is k = true → ∃ u, k u = true ∧ u = (if ok then .tup [v, .b is] else v) := by
          intro v is hf
          cases ok with
          | true => exact ⟨_, hf, rfl⟩
          | false => exact ⟨_, hf, rfl⟩
        have fin : ∀ (φ : Phi) (v : AV) (cv : Value) (is : Bool), VR φ v cv → VR φ (if ok then .tup [v, .b is] else v) (if ok then .tuple #[cv, .bool is] else cv) := by
          intro φ v cv is hr
          cases ok with
          | true => simp only [if_true, VR]; exact ⟨_, rfl, VRs.cons hr (VRs.cons (by simp [VR]) VRs.nil)⟩
          | false => simpa using hr
        obtain ⟨kd, hkd⟩ : ∃ kd, P.underlying kt = some kd := by
          cases hu' : P.underlying kt with
          | none => unfold keyC at hkey; rw [hu'] at hkey; cases hkey
          | some kd => exact ⟨kd, rfl⟩
        rcases asMp_of h2 with ⟨rfl, h3⟩ | ⟨id, rfl, h3⟩
        · obtain ⟨u, hu1, rfl⟩ := found_of _ _ h3
          refine ⟨_, hu1, fun φ nx ρ o w ho hr hvr => ?_⟩
          obtain ⟨r1, r2⟩ := vrs2 hvr
          simp only [VR] at r1
          obtain ⟨zv, ez, rz⟩ := run_zero_of (φ := φ) hz w
          refine ⟨_, ?_, fin φ z zv false rz⟩
          have hck := keyC_ok (P := P) 10 kt key hkey φ (ρ ix) 10000 true w r2 (by decide)
          simp only [execOp, ho]
          apply exec_v
          simp only [Instr.lookup, Sem.run_bind, run_underlying hu, Result.andThen_ok, r1, Sem.run_pure]
          rw [show ((#[] : Array MapEntry).isEmpty) = true from rfl, hck]
          simp only [Result.andThen_ok]
          rw [findKey_asking hkd]
          simp [Instr.findAsking, ez]
        · obtain ⟨es, hg, h4⟩ := mapK_of h3
          rcases findK_of es 0 _ _ h4 with ⟨i, y, v, e1, e2, e3, e4⟩ | ⟨e1, e2⟩
          · obtain ⟨u, hu1, rfl⟩ := found_of _ _ e2
            refine ⟨_, hu1, fun φ nx ρ o w ho hr hvr => ?_⟩
            obtain ⟨r1, r2⟩ := vrs2 hvr
            simp only [VR] at r1
            obtain ⟨b, base, room, hφ, ev⟩ := r1
            obtain ⟨c, clock, hb, her⟩ := map_at hr hg hφ
            obtain ⟨me, g1, g2, g3, g4⟩ := asking_yes r2 w es c.toList 0 i y v her e1 e3 e4
            refine ⟨_, ?_, fin φ v me.val true g3⟩
            have hck := keyC_ok (P := P) 10 kt key hkey φ (ρ ix) 10000 c.isEmpty w r2 (by decide)
            simp only [execOp, ho]
            apply exec_v
            simp only [Instr.lookup, Sem.run_bind, run_underlying hu, Result.andThen_ok, ev, run_gmap hb, Sem.run_pure, hck]
            rw [findKey_asking hkd, g4]
            simp
          · obtain ⟨u, hu1, rfl⟩ := found_of _ _ e1
            refine ⟨_, hu1, fun φ nx ρ o w ho hr hvr => ?_⟩
            obtain ⟨r1, r2⟩ := vrs2 hvr
            simp only [VR] at r1
            obtain ⟨b, base, room, hφ, ev⟩ := r1
            obtain ⟨c, clock, hb, her⟩ := map_at hr hg hφ
            have g4 := asking_no (P := P) r2 w es c.toList 0 her e2
            obtain ⟨zv, ez, rz⟩ := run_zero_of (φ := φ) hz w
            refine ⟨_, ?_, fin φ z zv false rz⟩
            have hck := keyC_ok (P := P) 10 kt key hkey φ (ρ ix) 10000 c.isEmpty w r2 (by decide)
            simp only [execOp, ho]
            apply exec_v
            simp only [Instr.lookup, Sem.run_bind, run_underlying hu, Result.andThen_ok, ev, run_gmap hb, Sem.run_pure, hck]
            rw [findKey_asking hkd, g4]
            simp [ez]

end
end Go.Am
/- Operations that read the heap are sound: the rest. -/
namespace Go.Am
open Go

section
variable {P : Program}

theorem maplen_ok (args : Array Operand) (ts : Array TypeId) : ReadOk P (.call ⟨.builtin .len, args, ts⟩) (readC P (.call ⟨.builtin .len, args, ts⟩)) := by
  unfold readC
  simp only
  cases ht : ts[0]? with
  | none => exact readBad_ok _
  | some t =>
    simp only
    cases hu : P.underlying t with
    | none => exact readBad_ok _
    | some D =>
      cases D <;> simp only <;> (try exact readBad_ok _)
      case map kt e =>
        intro vs h k hk
        obtain ⟨v, r, rfl, h1⟩ := one_of hk
        rcases asMp_of h1 with ⟨rfl, h2⟩ | ⟨id, rfl, h2⟩
        · refine ⟨_, h2, fun φ nx ρ o w ho hr hvr => ?_⟩
          rw [exec_call_operands] at hvr
          obtain ⟨u, us, e1, r1, _⟩ := args_one hvr
          simp only [VR] at r1
          subst r1
          refine ⟨goInt 0, ?_, by simp only [VR, goInt]; rfl⟩
          rw [exec_call ho, e1]
          simp [builtin, Builtin.len_, ht, run_underlying hu]
        · obtain ⟨es, hg, h3⟩ := mapK_of h2
          rw [fNat_eq, lenN_eq] at h3
          refine ⟨_, h3, fun φ nx ρ o w ho hr hvr => ?_⟩
          rw [exec_call_operands] at hvr
          obtain ⟨u, us, e1, r1, _⟩ := args_one hvr
          simp only [VR] at r1
          obtain ⟨b, base, room, hφ, rfl⟩ := r1
          obtain ⟨c, clock, hb, her⟩ := map_at hr hg hφ
          refine ⟨goInt c.size, ?_, by simp only [VR, goInt, her.length]; simp⟩
          rw [exec_call ho, e1]
          simp [builtin, Builtin.len_, ht, run_underlying hu, run_gmap hb]

theorem natsK_of : ∀ {l : List AV} {k : List Nat → Bool}, natsK l k = true → ∃ bs, k bs = true ∧ l = bs.map (fun n => .i .u8 (.ofNat n)) ∧ ∀ n ∈ bs, n ≤ 255
  | [], k, h => ⟨[], h, rfl, by simp⟩
  | v :: l, k, h => by
    have h' : asI v (fun j n => wK (kindEq j .u8) (Int.rec (motive := fun _ => Bool) (fun m => wK (Nat.ble m 255) (fNat m fun m' => natsK l fun r => k (m' :: r))) (fun _ => false) n)) = true := h
    obtain ⟨j, n, rfl, h1⟩ := asI_of h'
    obtain ⟨hj, h2⟩ := wK_of h1
    have hj := kindEq_of hj
    subst hj
    cases n with
    | negSucc _ => cases h2
    | ofNat m =>
      have h2' : wK (Nat.ble m 255) (fNat m fun m' => natsK l fun r => k (m' :: r)) = true := h2
      obtain ⟨hm, h3⟩ := wK_of h2'
      rw [fNat_eq] at h3
      obtain ⟨bs, e1, rfl, e3⟩ := natsK_of h3
      exact ⟨m :: bs, e1, rfl, by simpa using ⟨nble_of hm, e3⟩⟩

theorem VRs_bytes {φ : Phi} : ∀ {bs : List Nat} {c : List Value}, VRs φ (bs.map (fun n => AV.i .u8 (.ofNat n))) c → c = bs.map (fun n => Value.int .u8 (.ofNat n))
  | [], [], _ => rfl
  | [], _ :: _, r => by simp [VRs] at r
  | _ :: _, [], r => by simp [VRs] at r
  | b :: bs, v :: c, r => by
    simp only [List.map_cons, VRs, VR] at r
    rw [VRs_bytes r.2, r.1]
    rfl

theorem pushed_bytes (bs : List Nat) (hb : ∀ n ∈ bs, n ≤ 255) : ∀ s : ByteArray, bytesOfBA ((bs.map (fun n => Int.ofNat n)).foldl (fun r n => r.push (UInt8.ofNat n.toNat)) s) = bytesOfBA s ++ bs := by
  induction bs with
  | nil => intro s; simp
  | cons b bs ih =>
    intro s
    simp only [List.map_cons, List.foldl_cons]
    rw [ih (fun n hn => hb n (by simp [hn]))]
    have hb0 : b ≤ 255 := hb b (by simp)
    have : bytesOfBA (s.push (UInt8.ofNat (Int.ofNat b).toNat)) = bytesOfBA s ++ [b] := by
      simp [bytesOfBA, ByteArray.push]
      omega
    rw [this]
    simp

theorem bytes_empty : bytesOfBA .empty = [] := rfl

theorem run_bytesToString_of {φ : Phi} {w : World} {b base off n' cc : Nat} {c : Array Value} {e : TypeId} {fr : Nat × Nat} {l : List AV} {bs : List Nat} (hb : w.heap[b]? = some (.cells c e fr)) (hn : off + (n' + 1) ≤ l.length)
    (hroom : base + l.length ≤ c.size) (hr : VRs φ l ((c.toList.drop base).take l.length)) (hbs : (l.drop off).take (n' + 1) = bs.map (fun n => AV.i .u8 (.ofNat n))) (h255 : ∀ n ∈ bs, n ≤ 255) :
    ∃ s, (Conv.bytesToString (.slice (some ⟨b, base + off, none⟩) (n' + 1) cc)).run P w = .ok (.string s) w ∧ bytesOfBA s = bs := by
  have h1 := VRs_cut hr hn
  rw [hbs] at h1
  have h2 := VRs_bytes h1
  have h3 := run_loadCells_of (P := P) (off := off) (n := n' + 1) hb (base := base) (by omega)
  rw [h2] at h3
  have h4 := run_bytesToString (P := P) w ⟨b, base + off, none⟩ (n' + 1) cc (bs.map (fun n => Int.ofNat n)) (by
    rw [h3]; simp [List.map_map, Function.comp_def])
  refine ⟨_, h4, ?_⟩
  rw [pushed_bytes bs h255, bytes_empty]
  rfl

theorem shape_at {w : World} {b : Nat} {c : Array Value} {e : TypeId} {f : Nat × Nat} (hb : w.heap[b]? = some (.cells c e f)) : w.shape? b = some (e, c.size) := by
  simp [World.shape?, hb]

theorem sameLayout_self (p : Program) (d : Nat) (t : TypeId) : sameLayout p (d + 1) t t = true := by
  unfold sameLayout
  simp

theorem lies_same {P : Program} {u : TypeId} {s : Nat} (hs : szT P u = some (s + 1)) {cells off : Nat} (h0 : off % (s + 1) = 0) (h1 : off + (s + 1) ≤ cells) :
    liesAt P P.depth u (cells / P.cellsOf u) off u 1 = true := by
  have hd : P.depth = (2 * (P.types.size + Made.depth) + 1) + 1 := rfl
  have hc : P.cellsOf u = s + 1 := by
    unfold szT at hs
    unfold Program.cellsOf
    split at hs
    · rename_i i hi
      simp at hs
      simp [hi, hs]
    · cases hs
  rw [hc]
  generalize hD : 2 * (P.types.size + Made.depth) + 1 = D at hd
  unfold liesAt
  rw [hd]
  simp only
  have : rowAt P (fun x => sameLayout P (D + 1) x u) (D + 1) u (cells / (s + 1)) off 1 = true := by
    unfold rowAt
    rw [hc]
    simp only [Nat.succ_ne_zero, if_false, h0]
    have h2 : off / (s + 1) + 1 ≤ cells / (s + 1) := by
      rw [Nat.le_div_iff_mul_le (by omega)]
      have := Nat.div_mul_le_self off (s + 1)
      rw [Nat.add_mul]
      omega
    simp [h2, sameLayout_self]
  simp [this]

theorem convr_ok (s d : TypeId) (x : Operand) : ReadOk P (.convert s d x) (readC P (.convert s d x)) := by
  unfold readC
  simp only
  cases hs : P.underlying s with
  | none => exact readBad_ok _
  | some S =>
    cases hd : P.underlying d with
    | none => cases S <;> exact readBad_ok _
    | some D =>
      cases S <;> (try (cases D <;> exact readBad_ok _)) <;> cases D <;> (try exact readBad_ok _) <;> (try simp only)
      case slice.string e =>
        cases he : P.underlying e with
        | none => exact readBad_ok _
        | some E =>
          cases E <;> (try exact readBad_ok _)
          rename_i j
          cases j <;> (try exact readBad_ok _)
          intro vs h k hk
          obtain ⟨v, r, rfl, h1⟩ := one_of hk
          rcases asSl_of h1 with ⟨rfl, h2⟩ | ⟨id, off, n, cap, esz, rfl, h2⟩
          · refine ⟨_, h2, fun φ nx ρ o w ho hr hvr => ?_⟩
            have r1 := vrs1 (v := ρ x) (by simpa [Op.operands] using hvr)
            simp only [VR] at r1
            refine ⟨.string .empty, ?_, by simp only [VR]; exact ⟨_, rfl, bytes_empty⟩⟩
            simp only [execOp, ho]
            apply exec_v
            simp [r1, convert, run_underlying hs, run_underlying hd, run_underlying he, Conv.bytesToString]
          · obtain ⟨hz, h3⟩ := wK_of h2
            cases n with
            | zero =>
              refine ⟨_, h3, fun φ nx ρ o w ho hr hvr => ?_⟩
              have r1 := vrs1 (v := ρ x) (by simpa [Op.operands] using hvr)
              simp only [VR] at r1
              obtain ⟨b, base, room, a, cc, hφ, ev, _⟩ := r1
              refine ⟨.string .empty, ?_, by simp only [VR]; exact ⟨_, rfl, bytes_empty⟩⟩
              simp only [execOp, ho]
              apply exec_v
              rw [ev, run_convert_bytes_string w s d e _ _ _ hs he hd]
              have := run_bytesToString (P := P) w a 0 cc [] (by simp [loadCells, loadCellsFrom])
              simpa using this
            | succ n' =>
              have h3' : cellsK h id (fun _ l => cutK l off (n' + 1) fun r => natsK r fun bs => k (.s bs)) = true := h3
              obtain ⟨e', l, hg, h4⟩ := cellsK_of h3'
              obtain ⟨hle, h5⟩ := cutK_of h4
              obtain ⟨bs, h6, hbs, h255⟩ := natsK_of h5
              refine ⟨_, h6, fun φ nx ρ o w ho hr hvr => ?_⟩
              have r1 := vrs1 (v := ρ x) (by simpa [Op.operands] using hvr)
              simp only [VR] at r1
              obtain ⟨b, base, room, a, cc, hφ, ev, hcc, ha, _⟩ := r1
              obtain ⟨rfl, _⟩ := ha (by omega)
              obtain ⟨c, cu, cf, e1, e2, e3, e4, e5⟩ := cells_at hr hg hφ
              obtain ⟨st, g1, g2⟩ := run_bytesToString_of (P := P) (φ := φ) (cc := cc) e1 hle (by omega) e4 hbs h255
              refine ⟨.string st, ?_, by simp only [VR]; exact ⟨_, rfl, g2⟩⟩
              simp only [execOp, ho]
              apply exec_v
              rw [ev, run_convert_bytes_string w s d e _ _ _ hs he hd]
              exact g1
      case pointer.unsafePointer t =>
        cases hz : szT P t with
        | none => exact readBad_ok _
        | some z => cases z with
          | zero => exact readBad_ok _
          | succ z =>
            intro vs h k hk
            obtain ⟨v, r, rfl, h1⟩ := one_of hk
            obtain ⟨id, off, rfl, h2⟩ := asP_of h1
            obtain ⟨e, l, hg, h3⟩ := cellsWK_of h2
            obtain ⟨hle, h4⟩ := wK_of h3
            have hle := nble_of hle
            rw [lenN_eq] at hle
            refine ⟨_, h4, fun φ nx ρ o w ho hr hvr => ?_⟩
            have r1 := vrs1 (v := ρ x) (by simpa [Op.operands] using hvr)
            refine ⟨ρ x, ?_, r1⟩
            simp only [VR] at r1
            obtain ⟨b, base, room, hφ, ev⟩ := r1
            obtain ⟨c, e1, e2, e3, e4, e5, _⟩ := cells_atW hr hg hφ
            have hsh := shape_at e1
            simp only [execOp, ho]
            apply exec_v
            have hlt : ¬ (c.size ≤ base + off) := by omega
            simp [ev, convert, run_underlying hs, run_underlying hd, Conv.unsafePointer, Conv.seenAt, viewAt, hsh, cellsIn, run_sizeOf_of hz, hlt]
      case unsafePointer.pointer u =>
        cases hz : szT P u with
        | none => exact readBad_ok _
        | some z => cases z with
          | zero => exact readBad_ok _
          | succ z =>
            intro vs h k hk
            obtain ⟨v, r, rfl, h1⟩ := one_of hk
            obtain ⟨id, off, rfl, h2⟩ := asP_of h1
            obtain ⟨e, l, hg, h3⟩ := cellsWK_of h2
            obtain ⟨he, h4⟩ := wK_of h3
            obtain ⟨hoff, h5⟩ := wK_of h4
            obtain ⟨hle, h6⟩ := wK_of h5
            have he := nbeq_of he
            have hoff := nbeq_of hoff
            have hle := nble_of hle
            rw [lenN_eq] at hle
            subst he hoff
            refine ⟨_, h6, fun φ nx ρ o w ho hr hvr => ?_⟩
            have r1 := vrs1 (v := ρ x) (by simpa [Op.operands] using hvr)
            refine ⟨ρ x, ?_, r1⟩
            simp only [VR] at r1
            obtain ⟨b, base, room, hφ, ev⟩ := r1
            obtain ⟨c, e1, e2, e3, e4, e5, e6⟩ := cells_atW hr hg hφ
            have hsh := shape_at e1
            have hlies := lies_same hz (cells := c.size) (off := base) (e6 _ hz) (by omega)
            simp only [execOp, ho]
            apply exec_v
            simp [ev, convert, run_underlying hs, run_underlying hd, Conv.unsafePointer, Conv.seenAt, viewAt, hsh, run_sizeOf_of hz, variablesAt, hlies]

theorem readC_ok (op : Op) : ReadOk P op (readC P op) := by
  cases op with
  | load t x => exact load_ok t x
  | lookup t x ix ok => exact lookup_ok t x ix ok
  | convert s d x => exact convr_ok s d x
  | call c =>
    obtain ⟨callee, args, ts⟩ := c
    cases callee with
    | builtin b => cases b <;> first | exact maplen_ok args ts | exact readBad_ok _
    | _ => exact readBad_ok _
  | _ => exact readBad_ok _

end
end Go.Am
