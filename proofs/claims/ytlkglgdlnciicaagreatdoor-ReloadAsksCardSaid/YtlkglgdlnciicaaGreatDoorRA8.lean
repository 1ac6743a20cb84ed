/- The answers, from the world into the machine's memory. -/
import Derived.Test.YtlkglgdlnciicaaGreatDoorRA7
import Derived.Test.YtlkglgdlnciicaaGreatDoorAmIn
import Derived.ProofKit
set_option linter.all false
open Go Go.Am Go.Proofs
namespace Go.Am.T
open Go.ChangeShapes Go.WideShapes

section
variable {W : World} {H : Type} {enc : TypeId × Value → H}

theorem field {P : Program} {t : TypeId} {fs : Array Field} {fuel : Nat} {cs : List Value} {x : DataW H × List MemPlace} (hs : P.underlying t = some (.struct fs)) (h : DataW.trod enc P W 0 (fun _ => true) true fuel t cs = some x) :
    cs.length = P.cellsOf t ∧ ∃ n, ∀ (i ty off : Nat), (fs[i]?).map (fun f => (f.type, f.offset)) = some (ty, off) → ∃ y, DataW.trod enc P W 0 (fun _ => true) true n ty ((cs.drop off).take (P.cellsOf ty)) = some y := by
  obtain ⟨xs, n, _, _, h1, h2, h3⟩ := DataW.trod_struct hs h
  refine ⟨h1, n, fun i ty off hf => ?_⟩
  obtain ⟨f, hf', he⟩ := Option.map_eq_some_iff.1 hf

  injection he with he1 he2
  subst he1 he2
  have hlt : i < fs.size := (Array.getElem?_eq_some_iff.1 hf').1
  exact ⟨xs[i], by rw [h3 i f hf', List.getElem?_eq_getElem (by omega)]⟩

theorem cells3 : Tryz.prog.cellsOf 3 = 1 := by kernel_rfl
theorem cells4 : Tryz.prog.cellsOf 4 = 1 := by kernel_rfl
theorem cells9 : Tryz.prog.cellsOf 9 = 1 := by kernel_rfl
theorem cells22 : Tryz.prog.cellsOf 22 = 1 := by kernel_rfl
theorem cells23 : Tryz.prog.cellsOf 23 = 1 := by kernel_rfl
theorem cells24 : Tryz.prog.cellsOf 24 = 1 := by kernel_rfl
theorem cells25 : Tryz.prog.cellsOf 25 = 1 := by kernel_rfl
theorem cells26 : Tryz.prog.cellsOf 26 = 1 := by kernel_rfl
theorem cells27 : Tryz.prog.cellsOf 27 = 1 := by kernel_rfl
theorem cells29 : Tryz.prog.cellsOf 29 = 3 := by kernel_rfl
theorem cells31 : Tryz.prog.cellsOf 31 = 7 := by kernel_rfl
theorem cells34 : Tryz.prog.cellsOf 34 = 1 := by kernel_rfl
theorem cells36 : Tryz.prog.cellsOf 36 = 2 := by kernel_rfl
theorem cells71 : Tryz.prog.cellsOf 71 = 3 := by kernel_rfl
theorem cells74 : Tryz.prog.cellsOf 74 = 2 := by kernel_rfl

theorem list2 {α : Type} {l : List α} (h : l.length = 2) : ∃ a b, l = [a, b] := by
  match l, h with
  | [a, b], _ => exact ⟨a, b, rfl⟩
theorem list3 {α : Type} {l : List α} (h : l.length = 3) : ∃ a b c, l = [a, b, c] := by
  match l, h with
  | [a, b, c], _ => exact ⟨a, b, c, rfl⟩
theorem list7 {α : Type} {l : List α} (h : l.length = 7) : ∃ a b c d e f g, l = [a, b, c, d, e, f, g] := by
  match l, h with
  | [a, b, c, d, e, f, g], _ => exact ⟨a, b, c, d, e, f, g, rfl⟩

abbrev Im (W : World) := Imp Tryz.prog W

/-- an Int -/
theorem im71 {m : Nat} {cs : List Value} {y : DataW H × List MemPlace} (h : DataW.trod enc Tryz.prog W 0 (fun _ => true) true m 71 cs = some y) : ∃ x : I3, Im W cs (fun _ _ l => l = c3 x) := by
  obtain ⟨hl, n, hf⟩ := field Tryz.underlying71 h
  rw [cells71] at hl
  obtain ⟨c0, c1, c2, rfl⟩ := list3 hl
  obtain ⟨y0, e0⟩ := hf 0 4 0 rfl
  obtain ⟨y1, e1⟩ := hf 1 23 1 rfl
  obtain ⟨y2, e2⟩ := hf 2 23 2 rfl
  rw [cells4] at e0
  rw [cells23] at e1 e2
  obtain ⟨b, q0, _⟩ := DataW.trod_bool Tryz.underlying4 e0
  obtain ⟨i, q1, _⟩ := DataW.trod_int Tryz.underlying23 e1
  obtain ⟨j, q2, _⟩ := DataW.trod_int Tryz.underlying23 e2
  simp at q0 q1 q2
  subst q0 q1 q2
  refine ⟨(b, i, j), Imp.pure (l := c3 (b, i, j)) (fun φ => ?_) (fun x hx => ?_) (fun _ _ => rfl)⟩
  · simp [c3, VRs, VR]
  · simp [c3] at hx
    rcases hx with rfl | rfl | rfl <;> rfl

theorem slOf {h : Hp} {n : Pos} {sz : Nat} {α : Type} {c : α → List AV} {v : AV} {css : List (List AV)} {xs : List α} (hs : SlAt h n sz v css) (hl : css.length = xs.length) (he : ∀ (j : Nat) (h1 : j < css.length) (h2 : j < xs.length), css[j] = c xs[j]) : SlAt h n sz v (xs.map c) := by
  have : css = xs.map c := List.ext_getElem (by simpa using hl) (fun j h1 h2 => by simpa using he j h1 (by simpa using h2))
  rwa [← this]

/-- a row of Ints -/
theorem im25 (hW : HasRow W) {m : Nat} {cs : List Value} {y : DataW H × List MemPlace} (h : DataW.trod enc Tryz.prog W 0 (fun _ => true) true m 25 cs = some y) : ∃ xs : List I3, Im W cs (fun h n l => ∃ v, l = [v] ∧ IntsAt h n v xs) := by
  obtain ⟨xs, hb, hi⟩ := imp_slice (R := fun _ _ l x => l = c3 x) hW Tryz.underlying25 cells71 (by decide) (fun x h n h' n' l _ e => e) (fun m cs y h => im71 h) h
  exact ⟨xs, hi.mono fun h n l ⟨v, css, e1, e2, e3, e4⟩ => ⟨v, e1, slOf e2 e3 e4, hb⟩⟩
/-- a row of texts -/
theorem im27 (hW : HasRow W) {m : Nat} {cs : List Value} {y : DataW H × List MemPlace} (h : DataW.trod enc Tryz.prog W 0 (fun _ => true) true m 27 cs = some y) : ∃ xs : List (List Nat), Im W cs (fun h n l => ∃ v, l = [v] ∧ StrsAt h n v xs) := by
  obtain ⟨xs, hb, hi⟩ := imp_slice (R := fun _ _ l x => l = c1 x) hW Tryz.underlying27 cells9 (by decide) (fun x h n h' n' l _ e => e) (fun m cs y h => by
    obtain ⟨s, rfl, _⟩ := DataW.trod_string Tryz.underlying9 h
    exact ⟨bytesOfBA s, imp_str⟩) h
  exact ⟨xs, hi.mono fun h n l ⟨v, css, e1, e2, e3, e4⟩ => ⟨v, e1, slOf e2 e3 e4, hb⟩⟩

/-- a part -/
theorem im74 (hW : HasRow W) {m : Nat} {cs : List Value} {y : DataW H × List MemPlace} (h : DataW.trod enc Tryz.prog W 0 (fun _ => true) true m 74 cs = some y) : ∃ x : PartD, Im W cs (fun h n l => l.length = 2 ∧ PartR h n l x) := by
  obtain ⟨hl, n, hf⟩ := field Tryz.underlying74 h
  rw [cells74] at hl
  obtain ⟨c0, c1, rfl⟩ := list2 hl
  obtain ⟨y0, e0⟩ := hf 0 3 0 rfl
  obtain ⟨y1, e1⟩ := hf 1 25 1 rfl
  rw [cells3] at e0
  rw [cells25] at e1
  obtain ⟨i, q0, _⟩ := DataW.trod_int Tryz.underlying3 e0
  obtain ⟨xs, hi⟩ := im25 hW e1
  simp at q0 hi
  subst q0
  refine ⟨(i, xs), (imp_cons imp_int hi (fun h n h' n' l _ e => e)).mono fun h n l ⟨a, b, e, e1, v, e2, e3⟩ => ?_⟩
  simp at e1
  subst e1 e e2
  exact ⟨rfl, v, rfl, e3⟩

theorem rowsOf {h : Hp} {n : Pos} {α : Type} {R : Hp → Pos → List AV → α → Prop} {sz : Nat} {v : AV} {css : List (List AV)} {xs : List α} (hb : xs.length < big) (hs : SlAt h n sz v css) (hl : css.length = xs.length) (he : ∀ (j : Nat) (h1 : j < css.length) (h2 : j < xs.length), css[j].length = sz ∧ R h n css[j] xs[j]) : RowsOf R sz h n v xs :=
  ⟨hb, css, hs, hl, fun c hc => by
    obtain ⟨j, hj, rfl⟩ := List.getElem_of_mem hc
    exact (he j hj (by omega)).1, fun j h1 h2 => (he j h1 h2).2⟩

/-- a row of parts -/
theorem im34 (hW : HasRow W) {m : Nat} {cs : List Value} {y : DataW H × List MemPlace} (h : DataW.trod enc Tryz.prog W 0 (fun _ => true) true m 34 cs = some y) : ∃ xs : List PartD, Im W cs (fun h n l => ∃ v, l = [v] ∧ PartsAt h n v xs) := by
  obtain ⟨xs, hb, hi⟩ := imp_slice (R := fun h n l x => l.length = 2 ∧ PartR h n l x) hW Tryz.underlying34 cells74 (by decide) (fun x h n h' n' l e ⟨a, b⟩ => ⟨a, b.ext e⟩) (fun m cs y h => im74 hW h) h
  exact ⟨xs, hi.mono fun h n l ⟨v, css, e1, e2, e3, e4⟩ => ⟨v, e1, rowsOf hb e2 e3 e4⟩⟩

/-- a row -/
theorem im36 (hW : HasRow W) {m : Nat} {cs : List Value} {y : DataW H × List MemPlace} (h : DataW.trod enc Tryz.prog W 0 (fun _ => true) true m 36 cs = some y) : ∃ x : RowD, Im W cs (fun h n l => l.length = 2 ∧ RowR h n l x) := by
  obtain ⟨hl, n, hf⟩ := field Tryz.underlying36 h
  rw [cells36] at hl
  obtain ⟨c0, c1, rfl⟩ := list2 hl
  obtain ⟨y0, e0⟩ := hf 0 24 0 rfl
  obtain ⟨y1, e1⟩ := hf 1 34 1 rfl
  rw [cells24] at e0
  rw [cells34] at e1
  obtain ⟨i, q0, _⟩ := DataW.trod_int Tryz.underlying24 e0
  obtain ⟨xs, hi⟩ := im34 hW e1
  simp at q0 hi
  subst q0
  refine ⟨(i, xs), (imp_cons imp_int hi (fun h n h' n' l _ e => e)).mono fun h n l ⟨a, b, e, e1, v, e2, e3⟩ => ?_⟩
  simp at e1
  subst e1 e e2
  exact ⟨rfl, v, rfl, e3⟩
theorem im26 (hW : HasRow W) {m : Nat} {cs : List Value} {y : DataW H × List MemPlace} (h : DataW.trod enc Tryz.prog W 0 (fun _ => true) true m 26 cs = some y) : ∃ xs : List RowD, Im W cs (fun h n l => ∃ v, l = [v] ∧ RowsAt h n v xs) := by
  obtain ⟨xs, hb, hi⟩ := imp_slice (R := fun h n l x => l.length = 2 ∧ RowR h n l x) hW Tryz.underlying26 cells36 (by decide) (fun x h n h' n' l e ⟨a, b⟩ => ⟨a, b.ext e⟩) (fun m cs y h => im36 hW h) h
  exact ⟨xs, hi.mono fun h n l ⟨v, css, e1, e2, e3, e4⟩ => ⟨v, e1, rowsOf hb e2 e3 e4⟩⟩

/-- an answer -/
theorem im31 (hW : HasRow W) {m : Nat} {cs : List Value} {y : DataW H × List MemPlace} (h : DataW.trod enc Tryz.prog W 0 (fun _ => true) true m 31 cs = some y) : ∃ x : AnsD, Im W cs (fun h n l => AnsR h n l x) := by
  obtain ⟨hl, n, hf⟩ := field Tryz.underlying31 h
  rw [cells31] at hl
  obtain ⟨c0, c1, c2, c3, c4, c5, c6, rfl⟩ := list7 hl
  obtain ⟨y0, e0⟩ := hf 0 22 0 rfl
  obtain ⟨y1, e1⟩ := hf 1 24 1 rfl
  obtain ⟨y2, e2⟩ := hf 2 25 2 rfl
  obtain ⟨y3, e3⟩ := hf 3 26 3 rfl
  obtain ⟨y4, e4⟩ := hf 4 29 4 rfl
  rw [cells22] at e0
  rw [cells24] at e1
  rw [cells25] at e2
  rw [cells26] at e3
  rw [cells29] at e4
  obtain ⟨_, m, hf⟩ := field Tryz.underlying29 e4
  obtain ⟨y5, e5⟩ := hf 0 3 0 rfl
  obtain ⟨y6, e6⟩ := hf 1 3 1 rfl
  obtain ⟨y7, e7⟩ := hf 2 27 2 rfl
  rw [cells3] at e5 e6
  rw [cells27] at e7
  obtain ⟨i0, q0, _⟩ := DataW.trod_int Tryz.underlying22 e0
  obtain ⟨i1, q1, _⟩ := DataW.trod_int Tryz.underlying24 e1
  obtain ⟨xs, h2⟩ := im25 hW e2
  obtain ⟨rs, h3⟩ := im26 hW e3
  obtain ⟨i4, q4, _⟩ := DataW.trod_int Tryz.underlying3 e5
  obtain ⟨i5, q5, _⟩ := DataW.trod_int Tryz.underlying3 e6
  obtain ⟨ss, h6⟩ := im27 hW e7
  simp at q0 q1 q4 q5 h2 h3 h6
  subst q0 q1 q4 q5
  have g : ∀ v0 : AV, Grows (fun _ _ l => l = [v0]) := fun v0 h n h' n' l _ e => e
  have g2 : Grows (fun h n l => ∃ v, l = [v] ∧ IntsAt h n v xs) := fun h n h' n' l e ⟨v, a, b⟩ => ⟨v, a, b.ext e⟩
  have g3 : Grows (fun h n l => ∃ v, l = [v] ∧ RowsAt h n v rs) := fun h n h' n' l e ⟨v, a, b⟩ => ⟨v, a, b.ext e⟩
  refine ⟨(i0, i1, xs, rs, i4, i5, ss), (imp_cons imp_int (imp_cons imp_int (imp_cons h2 (imp_cons h3 (imp_cons imp_int (imp_cons imp_int h6 (g _)) (g _)) g3) g2) (g _)) (g _)).mono ?_⟩
  rintro h n l ⟨a0, b0, rfl, r0, a1, b1, rfl, r1, a2, b2, rfl, ⟨v2, r2, s2⟩, a3, b3, rfl, ⟨v3, r3, s3⟩, a4, b4, rfl, r4, a5, b5, rfl, r5, v6, rfl, s6⟩
  simp at r0 r1 r2 r3 r4 r5
  subst r0 r1 r2 r3 r4 r5
  exact ⟨_, _, _, rfl, s2, s3, s6⟩
end
end Go.Am.T
