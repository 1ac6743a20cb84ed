/- Operations that make memory are sound. -/
import Derived.Test.YtlkglgdlnciicaaGreatDoorAmRead
set_option linter.all false
namespace Go.Am
open Go

section
variable {P : Program}

def AllocOk (P : Program) (op : Op) (f : AllocC) : Prop :=
  ∀ vs k, f.run vs k = true → ∃ b mk, k b mk = true ∧ ∀ (φ : Phi) (ρ : Operand → Value) (o : Oper) (w : World), o.op = op → VRs φ vs (op.operands.toList.map ρ) →
    ∃ cv obj room, (execOp ρ o).run P w = .ok (.value cv) (w.alloc obj) ∧ NewB φ room obj b ∧ ∀ (φ' : Phi) (id : Pos), φ' id = some (w.heap.size, 0, room) → VR φ' (mk id) cv

theorem allocBad_ok (op : Op) : AllocOk P op allocBad := fun _ _ h => by cases h

theorem NewB_cells {φ : Phi} {e : TypeId} {l : List AV} {c : Array Value} (r : VRs φ l c.toList) (f : ∀ x ∈ l, x.flat = true) : NewB φ c.size (.cells c e (0, 0)) (.cells e l) := by
  have hl : l.length = c.size := by rw [r.length]; simp
  refine ⟨c, rfl, rfl, Nat.le_of_eq hl, ?_, f⟩
  rw [hl, List.take_of_length_le (by simp)]
  exact r

theorem fold_size (off : Nat) : ∀ (l : List (Value × Nat)) (c : Array Value), (l.foldl (fun cs x => cs.setIfInBounds (off + x.2) x.1) c).size = c.size
  | [], c => rfl
  | x :: l, c => by simp only [List.foldl_cons]; rw [fold_size off l]; simp

theorem fill_size {place : Nat → Option (Nat × Nat)} : ∀ {ps : List (Nat × Value)} {c r : Array Value}, Instr.fill place c ps = some r → r.size = c.size
  | [], c, r, h => by simp [Instr.fill] at h; rw [h]
  | (i, v) :: ps, c, r, h => by
    simp only [Instr.fill] at h
    split at h
    · cases h
    · rename_i off size _
      split at h
      · cases h
      · rw [fill_size h]
        rw [← Array.foldl_toList]
        exact fold_size off _ c

theorem alloc_ok (e : TypeId) : AllocOk P (.alloc e) (allocC P (.alloc e)) := by
  unfold allocC
  simp only
  cases hz : zeroCellsT P e with
  | none => exact allocBad_ok _
  | some z =>
    intro vs k hk
    refine ⟨_, _, hk, fun φ ρ o w ho hr => ?_⟩
    obtain ⟨zv, ez, rz, fz⟩ := run_zeroCells_of (φ := φ) hz w
    refine ⟨.pointer (some ⟨w.heap.size, 0, none⟩), .cells zv.cells e (0, 0), zv.cells.size, ?_, NewB_cells rz fz, fun φ' id hid => ?_⟩
    · simp only [execOp, ho]
      apply exec_v
      simp [Instr.alloc, ez, newVar, newRow]
    · simp only [VR]
      exact ⟨_, _, _, hid, rfl⟩

theorem VR_cells {φ : Phi} {x : AV} {v : Value} {k : List AV → Bool} (h : cellsV x k = true) (hr : VR φ x v) : ∃ xs, k xs = true ∧ VRs φ xs v.cells.toList ∧ ∀ y ∈ xs, y.flat = true := by
  rcases cellsV_of h with ⟨l, rfl, h1⟩ | ⟨hf, h1⟩
  · simp only [VR] at hr
    obtain ⟨cs, rfl, r1, r2⟩ := hr
    exact ⟨l, h1, by simpa [Value.cells] using r1, r2⟩
  · refine ⟨[x], h1, ?_, by simpa using hf⟩
    have : v.cells = #[v] := by
      cases x <;> simp only [VR] at hr <;> first | (cases hf; done) | skip
      all_goals first | (subst hr; rfl) | (obtain ⟨_, rfl, _⟩ := hr; rfl) | (obtain ⟨_, _, _, _, rfl⟩ := hr; rfl) | (obtain ⟨_, _, _, _, _, _, rfl, _⟩ := hr; rfl) | (obtain ⟨_, _, rfl, _⟩ := hr; rfl)
    rw [this]
    exact VRs.cons hr VRs.nil

theorem cellsV_det {x : AV} {k : List AV → Bool} (h : cellsV x k = true) : ∃ xs, k xs = true ∧ (∀ y ∈ xs, x.flat = true → y.flat = true) ∧ ∀ (φ : Phi) (v : Value), VR φ x v → VRs φ xs v.cells.toList ∧ ∀ y ∈ xs, y.flat = true := by
  rcases cellsV_of h with ⟨l, rfl, h1⟩ | ⟨hf, h1⟩
  · refine ⟨l, h1, fun y _ hh => ?_, fun φ v hr => ?_⟩
    · cases hh
    · simp only [VR] at hr
      obtain ⟨cs, rfl, r1, r2⟩ := hr
      exact ⟨by simpa [Value.cells] using r1, r2⟩
  · refine ⟨[x], h1, fun y hy _ => by simp at hy; subst hy; exact hf, fun φ v hr => ⟨?_, by simpa using hf⟩⟩
    have : v.cells = #[v] := by
      have hr' := hr
      cases x <;> simp only [VR] at hr' <;> first | (cases hf; done) | skip
      all_goals first | (subst hr'; rfl) | (obtain ⟨_, rfl, _⟩ := hr'; rfl) | (obtain ⟨_, _, _, _, rfl⟩ := hr'; rfl) | (obtain ⟨_, _, _, _, _, _, rfl, _⟩ := hr'; rfl) | (obtain ⟨_, _, rfl, _⟩ := hr'; rfl)
    rw [this]
    exact VRs.cons hr VRs.nil

theorem box_ok (e : TypeId) (x : Operand) : AllocOk P (.box e x) (allocC P (.box e x)) := by
  intro vs k hk
  obtain ⟨v, r, rfl, h1⟩ := one_of hk
  obtain ⟨xs, h2, _, h3⟩ := cellsV_det h1
  refine ⟨_, _, h2, fun φ ρ o w ho hr => ?_⟩
  obtain ⟨r1, fz⟩ := h3 φ (ρ x) (vrs1 (v := ρ x) (by simpa [Op.operands] using hr))
  refine ⟨.pointer (some ⟨w.heap.size, 0, none⟩), .cells (ρ x).cells e (0, 0), (ρ x).cells.size, ?_, NewB_cells r1 fz, fun φ' id hid => ?_⟩
  · simp only [execOp, ho]
    apply exec_v
    simp [Instr.box, newVar, newRow]
  · simp only [VR]
    exact ⟨_, _, _, hid, rfl⟩

theorem makeMap_ok (t : TypeId) (r : Option Operand) : AllocOk P (.makeMap t r) (allocC P (.makeMap t r)) := by
  unfold allocC
  simp only
  cases hu : P.underlying t with
  | none => exact allocBad_ok _
  | some D =>
    cases D <;> (try exact allocBad_ok _)
    cases r with
    | some _ => exact allocBad_ok _
    | none =>
      intro vs k hk
      refine ⟨_, _, hk, fun φ ρ o w ho hr => ?_⟩
      refine ⟨.map (some w.heap.size), .map #[] 0, 0, ?_, ⟨#[], 0, rfl, by simp [ERs]⟩, fun φ' id hid => ?_⟩
      · simp only [execOp, ho]
        apply exec_v
        simp [Instr.makeMap]
      · simp only [VR]
        exact ⟨_, _, _, hid, rfl⟩

theorem repeat_succ (n : Nat) (z : List AV) : repeatL (n + 1) z = z ++ repeatL n z := rfl

theorem VRs_repeat {φ : Phi} {z : List AV} {c : Array Value} (h : VRs φ z c.toList) {s : Nat} (hs : c.size = s + 1) : ∀ n, VRs φ (repeatL n z) (((List.range (n * (s + 1))).map (fun i => c[i % c.size]!)))
  | 0 => by simp [repeatL, VRs]
  | n + 1 => by
    rw [repeat_succ, show (n + 1) * (s + 1) = (s + 1) + n * (s + 1) from by rw [Nat.add_mul]; omega, List.range_add, List.map_append, List.map_map]
    refine VRs.append ?_ ?_
    · have : (List.range (s + 1)).map (fun i => c[i % c.size]!) = c.toList := by
        apply List.ext_getElem
        · simp [hs]
        · intro i h1 h2
          have hi : i < c.size := by simpa [hs] using h1
          simp [Nat.mod_eq_of_lt hi, hi]
      rw [this]
      exact h
    · have : (List.range (n * (s + 1))).map ((fun i => c[i % c.size]!) ∘ (fun x => s + 1 + x)) = (List.range (n * (s + 1))).map (fun i => c[i % c.size]!) := by
        apply List.map_congr_left
        intro i _
        simp only [Function.comp_apply]
        rw [show (s + 1 + i) % c.size = i % c.size from by rw [← hs, Nat.add_mod_left]]
      rw [this]
      exact VRs_repeat h hs n

theorem flat_repeat {z : List AV} (h : ∀ x ∈ z, x.flat = true) : ∀ n, ∀ x ∈ repeatL n z, x.flat = true
  | 0 => fun x hx => by cases hx
  | n + 1 => by
    rw [repeat_succ]
    intro x hx
    rcases List.mem_append.1 hx with h1 | h1
    · exact h x h1
    · exact flat_repeat h n x h1

/-- the zeros of a new row -/
theorem zeros_of {e : TypeId} {n sz : Nat} {zs : List AV} (hz : zerosT P e n sz = some zs) (φ : Phi) (w : World) :
    (∀ x ∈ zs, x.flat = true) ∧ ∃ z : Array Value, ((n * sz = 0 ∧ z = #[]) ∨ (n * sz ≠ 0 ∧ ∃ v, (zeroValue e).run P w = .ok v w ∧ z = v.cells ∧ v.cells.size = sz)) ∧ VRs φ zs ((Array.range (n * sz)).map (fun i => z[i % z.size]!)).toList := by
  unfold zerosT at hz
  split at hz
  · rename_i h0
    simp at hz
    subst hz
    refine ⟨by simp, #[], .inl ⟨h0, rfl⟩, by simp [h0, VRs]⟩
  · rename_i m h0
    cases hc : zeroCellsT P e with
    | none => rw [hc] at hz; cases hz
    | some z =>
      rw [hc] at hz
      simp only at hz
      cases hb : Nat.beq (lenN z) sz with
      | false => rw [hb] at hz; cases hz
      | true =>
        rw [hb] at hz
        simp only [Option.some.injEq] at hz
        subst hz
        have hb := nbeq_of hb
        rw [lenN_eq] at hb
        obtain ⟨zv, ez, rz, fz⟩ := run_zeroCells_of (φ := φ) hc w
        have hsz0 : zv.cells.size = sz := by rw [← hb, rz.length]; simp
        refine ⟨flat_repeat fz n, zv.cells, ?_, ?_⟩
        · exact .inr ⟨by omega, _, ez, rfl, hsz0⟩
        · obtain ⟨s, rfl⟩ : ∃ s, sz = s + 1 := ⟨sz - 1, by cases sz <;> omega⟩
          have hsz : zv.cells.size = s + 1 := hsz0
          have := VRs_repeat rz hsz n
          simpa using this

theorem elemT_of {t e : TypeId} (h : elemT P t = some e) : P.underlying t = some (.slice e) := by
  unfold elemT at h
  split at h
  · injection h with h; subst h; assumption
  · cases h

theorem buildSlice_ok (t : TypeId) (n : Nat) (ps : Array (Nat × Operand)) : AllocOk P (.buildSlice t n ps) (allocC P (.buildSlice t n ps)) := by
  unfold allocC
  simp only
  cases he : elemT P t with
  | none => exact allocBad_ok _
  | some e =>
    simp only
    cases hs : szT P e with
    | none => exact allocBad_ok _
    | some sz =>
      simp only
      cases hb : Nat.ble (n * sz) 1000000 with
      | false => exact allocBad_ok _
      | true => cases hz : zerosT P e n sz with
        | none => exact allocBad_ok _
        | some zs =>
          intro vs k hk
          obtain ⟨e1, e2⟩ := elemPlaces_of sz ps.toList
          obtain ⟨cs, h1, hrun⟩ := fillK_of (fun i => some (i * sz, sz)) ps.toList (elemPlaces sz ps.toList) e1 (fun j p q h1 h2 => by rw [e2 j p q h1 h2]) zs vs _ hk
          refine ⟨_, _, h1, fun φ ρ o w ho hr => ?_⟩
          obtain ⟨fz, z, ez, rz⟩ := zeros_of hz φ w
          obtain ⟨r, er, rr, fr⟩ := hrun φ ρ _ rz fz (by simpa [Op.operands, Function.comp_def] using hr)
          have hb := nble_of hb
          have hsize : ¬ (n * sz > 2 ^ 24) := by omega
          have hr0 : r.size = n * sz := fill_size er |>.trans (by simp)
          refine ⟨.slice (some ⟨w.heap.size, 0, none⟩) n n, .cells r e (0, 0), r.size, ?_, NewB_cells rr fr, fun φ' id hid => ?_⟩
          · simp only [execOp, ho]
            apply exec_v
            simp only [Instr.buildSlice, Sem.run_bind, run_underlying (elemT_of he), Result.andThen_ok, run_sizeOf_of hs, if_neg hsize, Sem.run_pure]
            rcases ez with ⟨h0, rfl⟩ | ⟨h0, v, ev, rfl, _⟩
            · rw [if_pos h0]
              simp only [Sem.run_bind, Sem.run_pure, Result.andThen_ok, map_snd_toList, er]
              simp [newRow]
            · rw [if_neg h0]
              simp only [Sem.run_bind, ev, Sem.run_pure, Result.andThen_ok, map_snd_toList, er]
              simp [newRow]
          · simp only [VR]
            refine ⟨_, _, _, _, n, hid, rfl, Nat.le_refl _, fun _ => ⟨by simp, by omega⟩, by simp⟩

theorem both_of {t : TypeId} {n b : Nat} (hn : szT P t = some n) (hb : bytesT P t = some b) : ∃ i, P.info? t = some i ∧ i.size = n ∧ i.bytes = b := by
  unfold szT at hn
  unfold bytesT at hb
  cases hi : P.info? t with
  | none => rw [hi] at hn; cases hn
  | some i => rw [hi] at hn hb; simp at hn hb; exact ⟨i, rfl, hn, hb⟩

theorem makeSlice_ok (t : TypeId) (x y : Operand) : AllocOk P (.makeSlice t x y) (allocC P (.makeSlice t x y)) := by
  unfold allocC
  simp only
  cases he : elemT P t with
  | none => exact allocBad_ok _
  | some e =>
    simp only
    cases hs : szT P e with
    | none => exact allocBad_ok _
    | some sz =>
      cases hb : bytesT P e with
      | none => exact allocBad_ok _
      | some by_ =>
        intro vs k hk
        obtain ⟨a, b, r, rfl, h1⟩ := duo_of hk
        obtain ⟨ka, l, rfl, h2⟩ := asI_of h1
        obtain ⟨kb, m, rfl, h3⟩ := asI_of h2
        cases l with
        | negSucc _ => cases h3
        | ofNat l =>
          cases m with
          | negSucc _ => cases h3
          | ofNat m =>
            have h4 : wK (Nat.ble l m) (wK (Nat.ble (m * (by_ + sz + 1)) 1000000) (oK (zerosT P e m sz) fun zs => k (.cells e zs) fun id => .sl id 0 l (some m) sz)) = true := h3
            obtain ⟨g1, h5⟩ := wK_of h4
            obtain ⟨g2, h6⟩ := wK_of h5
            obtain ⟨zs, hz, h7⟩ := oK_of h6
            have g1 := nble_of g1
            have g2 := nble_of g2
            refine ⟨_, _, h7, fun φ ρ o w ho hr => ?_⟩
            obtain ⟨r1, r2⟩ := vrs2 (v := ρ x) (u := ρ y) (by simpa [Op.operands] using hr)
            simp only [VR] at r1 r2
            obtain ⟨fz, z, ez, rz⟩ := zeros_of hz φ w
            obtain ⟨i, hi, hi1, hi2⟩ := both_of hs hb
            have wl : IntKind.i64.wrap (l : Int) = l := by
              have : m ≤ 1000000 := Nat.le_trans (Nat.le_mul_of_pos_right m (by omega)) g2
              rw [IntKind.wrap_i64]; omega
            have wc : IntKind.i64.wrap (m : Int) = m := by
              have : m ≤ 1000000 := Nat.le_trans (Nat.le_mul_of_pos_right m (by omega)) g2
              rw [IntKind.wrap_i64]; omega
            have n1 : ¬ (m : Int) < 0 := by omega
            have hbm : by_ * m ≤ 1000000 := by
              refine Nat.le_trans ?_ g2
              rw [Nat.mul_comm]
              exact Nat.mul_le_mul_left _ (by omega)
            have n2 : ¬ (281474976710656 < (by_ : Int) * (m : Int)) := by
              have : (by_ : Int) * (m : Int) = ((by_ * m : Nat) : Int) := by simp
              rw [this]
              omega
            have n3 : ¬ (l : Int) < 0 := by omega
            have n4 : ¬ (m : Int) < (l : Int) := by omega
            refine ⟨.slice (some ⟨w.heap.size, 0, none⟩) l m, .cells ((Array.range (m * sz)).map (fun i => z[i % z.size]!)) e (0, 0), ((Array.range (m * sz)).map (fun i => z[i % z.size]!)).size, ?_, NewB_cells rz fz, fun φ' id hid => ?_⟩
            · simp only [execOp, ho]
              apply exec_v
              rw [r1, r2]
              have hr1 := run_underlying (P := P) (w := w) (elemT_of he)
              rcases ez with ⟨h0, rfl⟩ | ⟨h0, v, ev, rfl, _⟩
              · skip
                simp [Instr.makeSlice, run_underlying (elemT_of he), asInt, asIntOf, typeInfo, hi, hi2, wl, wc, n1, n2, n3, n4, run_sizeOf_of hs, h0, newRow]
              · simp [Instr.makeSlice, run_underlying (elemT_of he), asInt, asIntOf, typeInfo, hi, hi2, wl, wc, n1, n2, n3, n4, run_sizeOf_of hs, h0, ev, newRow]
            · simp only [VR]
              refine ⟨_, _, _, _, m, hid, rfl, g1, fun _ => ⟨by simp, by simp⟩, by simp⟩

theorem allocC_ok (op : Op) : AllocOk P op (allocC P op) := by
  cases op with
  | alloc e => exact alloc_ok e
  | box e x => exact box_ok e x
  | buildSlice t n ps => exact buildSlice_ok t n ps
  | makeMap t r => exact makeMap_ok t r
  | makeSlice t x y => exact makeSlice_ok t x y
  | _ => exact allocBad_ok _

end
end Go.Am
