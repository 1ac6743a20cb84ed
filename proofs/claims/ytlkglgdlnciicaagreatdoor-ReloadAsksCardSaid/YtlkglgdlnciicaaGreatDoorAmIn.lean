/- From a world into the machine's memory: what a reading reads, laid as blocks that are only read. -/
import Derived.Test.YtlkglgdlnciicaaGreatDoorAmW6
import Derived.Deep.Slices
set_option linter.all false
namespace Go.Am
open Go

section
variable {P : Program} {W : World}

def RoAll (h : Hp) : Prop := ∀ id B, PT.get id h = some B → B.isRo = true
/-- these cells, brought into the machine's memory: of the cells it lays, R holds -/
def Imp (P : Program) (W : World) (cs : List Value) (R : Hp → Pos → List AV → Prop) : Prop :=
  ∀ φ h n, HRel P φ h n W → RoAll h → ∃ φ' h' n' l, HRel P φ' h' n' W ∧ Le φ φ' ∧ RoAll h' ∧ Ext h n h' n' ∧ VRs φ' l cs ∧ (∀ x ∈ l, x.flat = true) ∧ R h' n' l
def Grows (R : Hp → Pos → List AV → Prop) : Prop := ∀ h n h' n' l, Ext h n h' n' → R h n l → R h' n' l

theorem Imp.mono {cs : List Value} {R R' : Hp → Pos → List AV → Prop} (hi : Imp P W cs R) (hr : ∀ h n l, R h n l → R' h n l) : Imp P W cs R' := fun φ h n r ro => by
  obtain ⟨φ', h', n', l, a1, a2, a3, a4, a5, a6, a7⟩ := hi φ h n r ro
  exact ⟨φ', h', n', l, a1, a2, a3, a4, a5, a6, hr _ _ _ a7⟩
theorem Imp.at {cs : List Value} {R : Hp → Pos → List AV → Prop} (hi : Imp P W cs R) : Imp P W cs (fun h n l => l.length = cs.length ∧ R h n l) := fun φ h n r ro => by
  obtain ⟨φ', h', n', l, a1, a2, a3, a4, a5, a6, a7⟩ := hi φ h n r ro
  exact ⟨φ', h', n', l, a1, a2, a3, a4, a5, a6, a5.length, a7⟩
theorem Imp.pure {cs : List Value} {l : List AV} {R : Hp → Pos → List AV → Prop} (hv : ∀ φ, VRs φ l cs) (hf : ∀ x ∈ l, x.flat = true) (hr : ∀ h n, R h n l) : Imp P W cs R := fun φ h n r ro =>
  ⟨φ, h, n, l, r, fun _ _ e => e, ro, Ext.refl _ _, hv φ, hf, hr _ _⟩
theorem imp_nil : Imp P W [] (fun _ _ l => l = []) := Imp.pure (fun _ => VRs.nil) (fun _ h => by cases h) (fun _ _ => rfl)
theorem imp_int {k : IntKind} {n : Int} : Imp P W [.int k n] (fun _ _ l => l = [.i k n]) := Imp.pure (fun φ => VRs.cons (by simp [VR]) VRs.nil) (fun x h => by simp at h; subst h; rfl) (fun _ _ => rfl)
theorem imp_bool {b : Bool} : Imp P W [.bool b] (fun _ _ l => l = [.b b]) := Imp.pure (fun φ => VRs.cons (by simp [VR]) VRs.nil) (fun x h => by simp at h; subst h; rfl) (fun _ _ => rfl)
theorem imp_str {s : ByteArray} : Imp P W [.string s] (fun _ _ l => l = [.s (bytesOfBA s)]) := Imp.pure (fun φ => VRs.cons (by simp [VR]) VRs.nil) (fun x h => by simp at h; subst h; rfl) (fun _ _ => rfl)
theorem imp_nilsl : Imp P W [.slice none 0 0] (fun _ _ l => l = [.nilsl]) := Imp.pure (fun φ => VRs.cons (by simp [VR]) VRs.nil) (fun x h => by simp at h; subst h; rfl) (fun _ _ => rfl)

theorem imp_append {cs ds : List Value} {R S : Hp → Pos → List AV → Prop} (h1 : Imp P W cs R) (h2 : Imp P W ds S) (hg : Grows R) : Imp P W (cs ++ ds) (fun h n l => ∃ a b, l = a ++ b ∧ R h n a ∧ S h n b) := fun φ h n r ro => by
  obtain ⟨φ1, k1, n1, l1, a1, a2, a3, a4, a5, a6, a7⟩ := h1 φ h n r ro
  obtain ⟨φ2, k2, n2, l2, b1, b2, b3, b4, b5, b6, b7⟩ := h2 φ1 k1 n1 a1 a3
  refine ⟨φ2, k2, n2, l1 ++ l2, b1, fun id x e => b2 _ _ (a2 _ _ e), b3, a4.trans b4, VRs.append (a5.mono b2) b5, fun x hx => ?_, l1, l2, rfl, hg _ _ _ _ _ b4 a7, b7⟩
  rcases List.mem_append.1 hx with hx | hx
  · exact a6 x hx
  · exact b6 x hx
theorem imp_cons {c : Value} {ds : List Value} {R S : Hp → Pos → List AV → Prop} (h1 : Imp P W [c] R) (h2 : Imp P W ds S) (hg : Grows R) : Imp P W (c :: ds) (fun h n l => ∃ a b, l = a :: b ∧ R h n [a] ∧ S h n b) :=
  (imp_append h1.at h2 (fun h n h' n' l e ⟨x, y⟩ => ⟨x, hg _ _ _ _ _ e y⟩)).mono fun h n l ⟨a, b, e, ⟨e1, e2⟩, e3⟩ => by
    match a, e1 with
    | [x], _ => exact ⟨x, b, e, e2, e3⟩

/-- one after another -/
theorem imp_seq {α : Type} [Inhabited α] {R : Hp → Pos → List AV → α → Prop} (hg : ∀ x, Grows (fun h n l => R h n l x)) : ∀ (css : List (List Value)), (∀ cs ∈ css, ∃ x, Imp P W cs (fun h n l => R h n l x)) →
    ∃ xs : List α, xs.length = css.length ∧ Imp P W css.flatten (fun h n l => ∃ ls : List (List AV), l = ls.flatten ∧ ls.length = xs.length ∧ (∀ (j : Nat) (h1 : j < ls.length) (h2 : j < xs.length), R h n ls[j] xs[j]) ∧ ls.map (·.length) = css.map (·.length))
  | [], _ => ⟨[], rfl, imp_nil.mono fun h n l e => ⟨[], e, rfl, fun j h1 => absurd h1 (by simp), rfl⟩⟩
  | cs :: css, hc => by
    obtain ⟨x, hx⟩ := hc cs (by simp)
    obtain ⟨xs, e0, hxs⟩ := imp_seq hg css (fun c h => hc c (by simp [h]))
    refine ⟨x :: xs, by simp [e0], (imp_append hx.at hxs (fun h n h' n' l e ⟨y, z⟩ => ⟨y, hg x _ _ _ _ _ e z⟩)).mono fun h n l ⟨a, b, e, ⟨e1, e2⟩, ls, e3, e4, e5, e6⟩ => ⟨a :: ls, by rw [e, e3]; rfl, by simp [e4], fun j h1 h2 => ?_, by simp [e1, e6]⟩⟩
    cases j with
    | zero => exact e2
    | succ j => exact e5 j (by simpa using h1) (by simpa using h2)

theorem flatten_length {α : Type} {sz : Nat} : ∀ (css : List (List α)), (∀ c ∈ css, c.length = sz) → css.flatten.length = css.length * sz
  | [], _ => by simp
  | c :: css, h => by
    have h1 := flatten_length css (fun c hc => h c (by simp [hc]))
    have h2 := h c (by simp)
    simp only [List.flatten_cons, List.length_append, List.length_cons, h1, h2, Nat.succ_mul]
    omega
theorem flatten_get {α : Type} {sz : Nat} : ∀ (css : List (List α)), (∀ c ∈ css, c.length = sz) → ∀ {i : Nat} (hi : i / sz < css.length), 0 < sz → css.flatten[i]? = (css[i / sz])[i % sz]?
  | [], _, i, hi, _ => by simp at hi
  | c :: css, h, i, hi, hp => by
    have h2 := h c (by simp)
    by_cases g : i < sz
    · have e1 : i / sz = 0 := Nat.div_eq_of_lt g
      have e2 : i % sz = i := Nat.mod_eq_of_lt g
      simp only [e1, e2, List.flatten_cons, List.getElem_cons_zero]
      rw [List.getElem?_append_left (by omega)]
    · have e1 : i / sz = (i - sz) / sz + 1 := by
        rw [← Nat.add_div_right _ hp]
        congr 1
        omega
      have e2 : i % sz = (i - sz) % sz := by
        rw [← Nat.add_mod_right (i - sz) sz]
        congr 1
        omega
      have := flatten_get css (fun c hc => h c (by simp [hc])) (i := i - sz) (by simp at hi; omega) hp
      simp only [e1, e2, List.flatten_cons, List.getElem_cons_succ]
      rw [List.getElem?_append_right (by omega), h2]
      exact this

theorem add_none {b o k : Nat} : (⟨b, o, none⟩ : Addr).add k = ⟨b, o + k, none⟩ := by
  unfold Addr.add
  split
  · rename_i h; simp [h]
  · rfl
theorem add_add {a : Addr} {i k : Nat} : (a.add i).add k = a.add (i + k) := by
  unfold Addr.add
  by_cases h1 : i = 0
  · subst h1; simp
  · by_cases h2 : k = 0
    · subst h2; simp [h1]
    · simp [h1, h2, Nat.add_assoc]

/-- some block of cells -/
def HasRow (W : World) : Prop := ∃ (b : Nat) (c : Array Value) (e : TypeId) (fr : Nat × Nat), W.heap[b]? = some (Obj.cells c e fr)

theorem HRel.addRo {φ : Phi} {h : Hp} {n : Pos} (r : HRel P φ h n W) (ro : RoAll h) {e : TypeId} {l : List AV} {x : Nat × Nat × Nat} (hx : x.1 < W.heap.size)
    (hb : RR (upd φ n x) W n l) : HRel P (upd φ n x) (PT.set (some (.ro e l)) n h) n.nxt W ∧ RoAll (PT.set (some (.ro e l)) n h) := by
  have hro : RoAll (PT.set (some (.ro e l)) n h) := fun id B hi => by
    by_cases g : n = id
    · subst g; rw [get_set_same] at hi; injection hi with hi; subst hi; rfl
    · rw [get_set_ne _ _ _ _ g] at hi; exact ro _ _ hi
  have r1 := r.name x hx
  refine ⟨⟨fun id B hi => ?_, fun i j B C y z hi hj hh => ?_, r1.bound⟩, hro⟩
  · by_cases g : n = id
    · subst g; rw [get_set_same] at hi; injection hi with hi; subst hi; exact hb
    · rw [get_set_ne _ _ _ _ g] at hi; exact r1.blk _ _ hi
  · rw [hro _ _ hi, hro _ _ hj] at hh; cases hh

theorem cells_lt {b : Nat} {o : Obj} (h : W.heap[b]? = some o) : b < W.heap.size := (Array.getElem?_eq_some_iff.1 h).1

/-- A SLICE of things of so many cells -/
theorem imp_slice {α : Type} [Inhabited α] {H : Type} {enc : TypeId × Value → H} {R : Hp → Pos → List AV → α → Prop} {sz fuel : Nat} {t e : TypeId} {cs : List Value} {x : DataW H × List MemPlace} (hW : HasRow W) (ht : P.underlying t = some (.slice e)) (hsz : P.cellsOf e = sz)
    (hp : 0 < sz) (hg : ∀ x, Grows (fun h n l => R h n l x))
    (hel : ∀ (m : Nat) (cs : List Value) (y : DataW H × List MemPlace), DataW.trod enc P W 0 (fun _ => true) true m e cs = some y → ∃ x, Imp P W cs (fun h n l => R h n l x))
    (h : DataW.trod enc P W 0 (fun _ => true) true fuel t cs = some x) :
    ∃ xs : List α, xs.length < 9223372036854775808 ∧ Imp P W cs (fun h n l => ∃ v css, l = [v] ∧ SlAt h n sz v css ∧ css.length = xs.length ∧ ∀ (j : Nat) (h1 : j < css.length) (h2 : j < xs.length), R h n css[j] xs[j]) := by
  rcases Deep.open_slice ht h with ⟨rfl, _⟩ | ⟨a, len, cap, m, n0, D, Pl, rfl, _, hl, hm, hmm, _, hx⟩
  · exact ⟨[], by simp, imp_nilsl.mono fun h n l e => ⟨.nilsl, [], e, .inl ⟨rfl, rfl⟩, rfl, fun j h1 => absurd h1 (by simp)⟩⟩
  · replace hx : ∀ i, i < cap → ∃ cs', W.cells? 0 (a.add (i * P.cellsOf e)) (P.cellsOf e) = some cs' ∧ DataW.trod enc P W 0 (fun _ => true) true n0 e cs' = some (D i, Pl i) := fun i hi => hx i (by rw [hmm]; simpa using hi)
    rw [hsz] at hx
    -- the elements' cells
    have hc : ∀ i, i < cap → ∃ c, W.cells? 0 (a.add (i * sz)) sz = some c ∧ c.length = sz ∧ (∀ k, k < sz → W.cell? (a.add (i * sz + k)) = c[k]?) ∧ ∃ x, Imp P W c (fun h n l => R h n l x) := fun i hi => by
      obtain ⟨c, h1, h2⟩ := hx i hi
      obtain ⟨_, h3, h4⟩ := World.cells?_some h1
      refine ⟨c, h1, h3, fun k hk => ?_, hel _ _ _ h2⟩
      have := h4 k hk
      rw [← this, add_add]
    let css : List (List Value) := (List.range len).map fun i => (W.cells? 0 (a.add (i * sz)) sz).getD []
    have hcss : ∀ i (hi : i < css.length), W.cells? 0 (a.add (i * sz)) sz = some css[i] := fun i hi => by
      have hi' : i < len := by simpa [css] using hi
      obtain ⟨c, h1, _⟩ := hc i (by omega)
      simp [css, h1]
    have hcl : css.length = len := by simp [css]
    obtain ⟨xs, e0, hxs⟩ := imp_seq hg css (fun c hm => by
      obtain ⟨i, hi, rfl⟩ := List.getElem_of_mem hm
      obtain ⟨c, h1, _, _, h2⟩ := hc i (by omega)
      rw [hcss i hi] at h1
      injection h1 with h1
      rw [h1]
      exact h2)
    have hlen : ∀ c ∈ css, c.length = sz := fun c hm => by
      obtain ⟨i, hi, rfl⟩ := List.getElem_of_mem hm
      obtain ⟨c, h1, h2, _⟩ := hc i (by omega)
      rw [hcss i hi] at h1
      injection h1 with h1
      rw [h1]
      exact h2
    refine ⟨xs, by rw [e0, hcl]; unfold maxLen at hm; omega, fun φ h n r ro => ?_⟩
    obtain ⟨φ1, h1, n1, l1, a1, a2, a3, a4, a5, a6, ls, a7, a8, a9, a10⟩ := hxs φ h n r ro
    have hll : ∀ c ∈ ls, c.length = sz := fun c hm => by
      have : c.length ∈ css.map (·.length) := by rw [← a10]; exact List.mem_map.2 ⟨c, hm, rfl⟩
      obtain ⟨d, hd, he⟩ := List.mem_map.1 this
      rw [← he]; exact hlen d hd
    have hlsl : ls.length = len := by rw [a8, e0, hcl]
    -- the place
    have place : ∃ x : Nat × Nat × Nat, x.1 < W.heap.size ∧ (cap ≠ 0 → a = ⟨x.1, x.2.1, none⟩ ∧ cap * sz ≤ x.2.2) ∧ ∀ φ', φ' n1 = some x → VRs φ' l1 css.flatten → RR φ' W n1 l1 := by
      by_cases h0 : cap = 0
      · obtain ⟨b, c, e', fr, hb⟩ := hW
        refine ⟨(b, 0, 0), cells_lt hb, fun hh => absurd h0 hh, fun φ' hφ hv => ⟨b, 0, 0, c, e', fr, hφ, hb, by omega, ?_, ?_, a6⟩⟩
        · have : css = [] := by rw [← List.length_eq_zero_iff]; omega
          have := hv.length
          simp_all
        · have : css = [] := by rw [← List.length_eq_zero_iff]; omega
          have hl0 := hv.length
          rw [this] at hl0 hv
          simp at hl0
          rw [hl0]
          simp [VRs]
      · have h00 : 0 < cap := by omega
        obtain ⟨c0, _, k0, k1, _⟩ := hc 0 h00
        have k2 := k1 0 hp
        have hex : ∃ v, W.cell? (a.add (0 * sz + 0)) = some v := ⟨c0[0]'(by omega), by rw [k2]; simp [k0, hp]⟩
        obtain ⟨v0, hv0⟩ := hex
        have hspot : a.spot = none := by
          have := World.cell?_spot hv0
          simpa [Addr.add] using this
        obtain ⟨ab, ao, asp⟩ := a
        simp only at hspot
        subst hspot
        unfold World.cell? at hv0
        simp only [add_none, Nat.zero_mul, Nat.add_zero] at hv0
        cases hob : W.heap[ab]? with
        | none => rw [hob] at hv0; cases hv0
        | some o =>
          cases o with
          | cells c e' fr =>
            have cell : ∀ k, W.cell? ⟨ab, ao + k, none⟩ = c[ao + k]? := fun k => by simp [World.cell?, hob]
            -- the last cell lies in the row
            obtain ⟨cl, _, q0, q1, _⟩ := hc (cap - 1) (by omega)
            have q2 := q1 (sz - 1) (by omega)
            have hidx : (cap - 1) * sz + (sz - 1) = cap * sz - 1 := by
              obtain ⟨c', rfl⟩ : ∃ c', cap = c' + 1 := ⟨cap - 1, by omega⟩
              simp only [Nat.add_sub_cancel, Nat.succ_mul]
              omega
            have q3 : ao + (cap * sz - 1) < c.size := by
              have h5 : W.cell? ⟨ab, ao + ((cap - 1) * sz + (sz - 1)), none⟩ = cl[sz - 1]? := by simpa only [add_none] using q2
              rw [cell, hidx, List.getElem?_eq_getElem (by omega)] at h5
              exact (Array.getElem?_eq_some_iff.1 h5).1
            have hpos : 0 < cap * sz := Nat.mul_pos h00 hp
            refine ⟨(ab, ao, cap * sz), cells_lt hob, fun _ => ⟨rfl, Nat.le_refl _⟩, fun φ' hφ hv => ⟨ab, ao, cap * sz, c, e', fr, hφ, hob, by omega, ?_, ?_, a6⟩⟩
            · rw [hv.length, flatten_length css hlen, hcl]
              exact Nat.mul_le_mul_right _ hl
            · have hfl : (c.toList.drop ao).take l1.length = css.flatten := by
                rw [hv.length]
                apply List.ext_getElem?
                intro i
                by_cases hi : i < css.flatten.length
                · rw [List.getElem?_take, if_pos hi, List.getElem?_drop]
                  have hfl := flatten_length css hlen
                  rw [hcl] at hfl
                  have hi1 : i / sz < len := by
                    rw [Nat.div_lt_iff_lt_mul hp]
                    omega
                  obtain ⟨d, d1, d2, d3, _⟩ := hc (i / sz) (by omega)
                  have d4 := d3 (i % sz) (Nat.mod_lt _ hp)
                  have d5 : i / sz * sz + i % sz = i := by rw [Nat.mul_comm]; exact Nat.div_add_mod i sz
                  rw [d5] at d4
                  have d6 : W.cell? ⟨ab, ao + i, none⟩ = d[i % sz]? := by simpa only [add_none] using d4
                  rw [cell] at d6
                  rw [Array.getElem?_toList, d6]
                  have d7 := hcss (i / sz) (by omega)
                  rw [d1] at d7
                  injection d7 with d7
                  rw [d7, flatten_get css hlen (by omega) hp]
                · rw [List.getElem?_take, if_neg hi, List.getElem?_eq_none (by omega)]
              rw [hfl]
              exact hv
          | _ => rw [hob] at hv0; cases hv0
    obtain ⟨x, x1, x2, x3⟩ := place
    have hle : Le φ1 (upd φ1 n1 x) := upd_le a1
    obtain ⟨r1, ro1⟩ := a1.addRo (e := e) a3 x1 (x3 _ (upd_same _ _ _) (a5.mono hle))
    refine ⟨_, _, _, [.sl n1 0 len none sz], r1, fun id y ey => hle _ _ (a2 _ _ ey), ro1, a4.trans (Ext.add _), ?_, ?_, _, ls, rfl, .inr ⟨n1, none, e, [], by rw [hlsl], by rw [Pos.num_nxt]; omega, ?_, hll⟩, by rw [a8], fun j h1 h2 => hg _ _ _ _ _ _ (Ext.add _) (a9 j h1 h2)⟩
    · refine VRs.cons ?_ VRs.nil
      simp only [VR]
      exact ⟨x.1, x.2.1, x.2.2, a, cap, upd_same _ _ _, rfl, hl, fun hh => ⟨by simpa using (x2 hh).1, by simpa using (x2 hh).2⟩, fun c hh => by cases hh⟩
    · intro y hy
      simp only [List.mem_singleton] at hy
      subst hy; rfl
    · simp only [cellsOf, get_set_same, List.append_nil, a7]
end
end Go.Am
