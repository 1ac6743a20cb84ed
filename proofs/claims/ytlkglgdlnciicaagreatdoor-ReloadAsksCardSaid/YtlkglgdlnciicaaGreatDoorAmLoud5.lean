/- Operations that act: calls. -/
import Derived.Test.YtlkglgdlnciicaaGreatDoorAmLoud4
set_option linter.all false
namespace Go.Am
open Go

section
variable {P : Program}

theorem followK_of : ∀ (path : List FieldStep) (t : TypeId) (v : AV) (k : TypeId → AV → Bool), followK P path t v k = true →
    ∃ xt x, k xt x = true ∧ ∀ (φ : Phi) (w : World) (cv : Value), VR φ v cv → ∃ cx, (follow path t (.val cv)).run P w = .ok (xt, .val cx) w ∧ VR φ x cx := by
  intro path
  induction path with
  | nil => exact fun t v k h => ⟨t, v, h, fun φ w cv hv => ⟨cv, by simp [follow], hv⟩⟩
  | cons s r ih =>
    intro t v k h
    unfold followK at h
    split at h
    · rename_i a n o ft hd hf hft
      obtain ⟨l, rfl, h1⟩ := asA_of h
      obtain ⟨fs, fd, hu, hx, ha, hn, ho⟩ := fieldOf_of hf
      have hft' : fd.type = ft := by
        rw [hu] at hft
        simp [hx] at hft
        exact hft
      have fin : ∃ y, ((a = true ∧ o + n ≤ l.length ∧ y = .agg ((l.drop o).take n)) ∨ (a = false ∧ l[o]? = some y)) ∧ followK P r ft y k = true := by
        rcases partK_of h1 with ⟨rfl, hle, hk⟩ | ⟨rfl, y, hy, hk⟩
        · exact ⟨_, .inl ⟨rfl, hle, rfl⟩, hk⟩
        · exact ⟨y, .inr ⟨rfl, hy⟩, hk⟩
      obtain ⟨y, hy, hk⟩ := fin
      obtain ⟨xt, x, g1, g2⟩ := ih ft y k hk
      refine ⟨xt, x, g1, fun φ w cv hv => ?_⟩
      simp only [VR] at hv
      obtain ⟨c, rfl, r1, r2⟩ := hv
      obtain ⟨cy, e1, e2⟩ := run_part_at ha hn r1 r2 hy w
      obtain ⟨cx, e3, e4⟩ := g2 φ w cy e2
      refine ⟨cx, ?_, e4⟩
      subst ho hft'
      simp only [follow, Sem.run_bind, run_underlying hu, Result.andThen_ok, hx, hd, Bool.false_eq_true, if_false, e1]
      exact e3
    · cases h

theorem wrap_def (ts : Array TypeId) (ty : TypeId) (a : Addr) (x m : ByteArray) : Builtin.ssaWrapNilChk_ ts ty #[.pointer (some a), .string x, .string m] = pure (.pointer (some a)) := rfl

theorem methC_of {t : TypeId} {name : String} {h : Hp} {v : AV} {k : FuncId → AV → Bool} (hk : (methC P t name).run h v k = true) :
    ∃ f x, k f x = true ∧ ∀ (φ : Phi) (n : Pos) (w : World) (cv : Value) (fuel : Nat), HRel P φ h n w → VR φ v cv → ∃ cx, (method (fuel + 1) t cv name).run P w = .ok (f, cx) w ∧ VR φ x cx := by
  unfold methC at hk
  cases hi : P.info? t with
  | none => rw [hi] at hk; cases hk
  | some inf =>
    rw [hi] at hk
    simp only at hk
    cases hm : inf.methods.toList.find? (·.name == name) with
    | none => rw [hm] at hk; cases hk
    | some m =>
      rw [hm] at hk
      simp only at hk
      cases hf : m.func with
      | none => rw [hf] at hk; cases hk
      | some fb =>
        obtain ⟨f, byPtr⟩ := fb
        rw [hf] at hk
        simp only at hk
        obtain ⟨xt, x, h1, h2⟩ := followK_of m.path.toList t v _ hk
        have hm' : inf.methods.find? (·.name == name) = some m := by rw [← Array.find?_toList]; exact hm
        have fin : ∀ (g : FuncId) (y : AV), k g y = true → g = f → (∀ (φ : Phi) (n : Pos) (w : World) (cx : Value) (wr : Option String), HRel P φ h n w → VR φ x cx → ∃ cy, (receiverAt xt (.val cx) byPtr wr).run P w = .ok cy w ∧ VR φ y cy) →
            ∃ f x, k f x = true ∧ ∀ (φ : Phi) (n : Pos) (w : World) (cv : Value) (fuel : Nat), HRel P φ h n w → VR φ v cv → ∃ cx, (method (fuel + 1) t cv name).run P w = .ok (f, cx) w ∧ VR φ x cx := by
          intro g y hg hgf hrec
          subst hgf
          refine ⟨g, y, hg, fun φ n w cv fuel hr hv => ?_⟩
          obtain ⟨cx, e1, e2⟩ := h2 φ w cv hv
          obtain ⟨cy, e3, e4⟩ := hrec φ n w cx (if m.path.isEmpty then some ((name.splitOn ".").getLastD name) else none) hr e2
          refine ⟨cy, ?_, e4⟩
          simp only [method, Sem.run_bind, run_typeInfo_of hi, Result.andThen_ok, hm', e1, hf, e3, Sem.run_pure]
        cases hu : P.underlying xt with
        | none => rw [hu] at h1; cases h1
        | some D =>
          rw [hu] at h1
          have plain : (∀ e, D ≠ .pointer e) → byPtr = false → k f x = true → ∃ f x, k f x = true ∧ ∀ (φ : Phi) (n : Pos) (w : World) (cv : Value) (fuel : Nat), HRel P φ h n w → VR φ v cv → ∃ cx, (method (fuel + 1) t cv name).run P w = .ok (f, cx) w ∧ VR φ x cx := by
            intro hD hb hg
            refine fin f x hg rfl fun φ n w cx wr hr hx => ⟨cx, ?_, hx⟩
            subst hb
            simp only [receiverAt, Sem.run_bind, run_underlying hu, Result.andThen_ok]
            cases D <;> first | (exact absurd rfl (hD _)) | simp [Place.get]
          cases D <;> cases byPtr <;> simp only at h1 <;> first | (cases h1; done) | (exact plain (by intro e he; cases he) rfl h1) | skip
          case pointer.false e =>
            cases ha : isAggT P e with
            | none => rw [ha] at h1; cases h1
            | some a => cases hn : szT P e with
              | none => rw [ha, hn] at h1; cases h1
              | some m0 =>
                rw [ha, hn] at h1
                obtain ⟨id, off, rfl, h3⟩ := asP_of h1
                obtain ⟨y, hy, hrun⟩ := loadK_of (P := P) ha hn h3
                refine fin f y hy rfl fun φ n w cx wr hr hx => ?_
                simp only [VR] at hx
                obtain ⟨b, base, room, hφ, rfl⟩ := hx
                obtain ⟨cy, e1, e2⟩ := hrun φ n w b base room hr hφ
                refine ⟨cy, ?_, e2⟩
                cases wr with
                | none => simp [receiverAt, run_underlying hu, Place.get, asAddr, e1]
                | some nm =>
                  simp only [receiverAt, Sem.run_bind, run_underlying hu, Result.andThen_ok, Place.get, Sem.run_pure, strVal, wrap_def, asAddr, e1]
          case pointer.true e =>
            refine fin f x h1 rfl fun φ n w cx wr hr hx => ⟨cx, ?_, hx⟩
            simp [receiverAt, run_underlying hu, Place.get]

theorem callMethod_of {t : TypeId} {name : String} {h : Hp} {v : AV} {k : FuncId → AV → Bool} (hk : (methC P t name).run h v k = true) :
    ∃ f x, k f x = true ∧ ∀ (φ : Phi) (n : Pos) (w : World) (cr : Value) (crest : List Value), HRel P φ h n w → VR φ (.ifc t v) cr →
      ∃ cx, (callMethod cr name crest.toArray).run P w = (callFunc f (cx :: crest).toArray).run P w ∧ VR φ x cx := by
  obtain ⟨f, x, h1, h2⟩ := methC_of hk
  refine ⟨f, x, h1, fun φ n w cr crest hr hv => ?_⟩
  simp only [VR] at hv
  obtain ⟨cv, rfl, hv⟩ := hv
  have hd : Made.depth = (Made.depth - 1) + 1 := by decide
  obtain ⟨cx, e1, e2⟩ := h2 φ n w cv (P.types.size + (Made.depth - 1)) hr hv
  refine ⟨cx, ?_, e2⟩
  simp only [callMethod, Sem.run_bind, run_program, Result.andThen_ok]
  rw [show P.types.size + Made.depth = P.types.size + (Made.depth - 1) + 1 from by omega, e1]
  simp

theorem callK_of {call : Caller} (hc : CallerOk P call) {f : AV} {args : List AV} {h : Hp} {n : Pos} {k : AV → Hp → Pos → Bool} (hk : callK P call f args h n k = true) :
    ∃ v h' n', k v h' n' = true ∧ ∀ (φ : Phi) (w : World) (cf : Value) (cargs : Array Value), HRel P φ h n w → VR φ f cf → VRs φ args cargs.toList →
      Does P ((do let d ← Deferred.ofValue cf cargs; invoke d.target d.args : Sem Next).run P w) (After P φ h n w v h' n') := by
  obtain ⟨fn, first, captured, rfl, h1⟩ := asFn_of hk
  cases fn with
  | func g =>
    have h2 : appK first args (fun as => appK as captured fun as' => call g as' h n k) = true := h1
    have h3 := appK_of (appK_of h2)
    obtain ⟨v, h', n', g1, g2⟩ := hc _ _ _ _ _ h3
    refine ⟨v, h', n', g1, fun φ w cf cargs hr hf ha => ?_⟩
    simp only [VR] at hf
    obtain ⟨xs, ys, rfl, r1, r2⟩ := hf
    have := g2 φ (xs.toList ++ cargs.toList ++ ys.toList) w hr (VRs.append (VRs.append r1 ha) r2)
    have e : ((do let d ← Deferred.ofValue (.func (.func g) xs ys) cargs; invoke d.target d.args : Sem Next).run P w) = (callFunc g (xs.toList ++ cargs.toList ++ ys.toList).toArray).run P w := by
      have hx : (xs.toList ++ cargs.toList ++ ys.toList).toArray = xs ++ cargs ++ ys := by apply Array.ext'; simp
      rw [hx]
      simp only [Deferred.ofValue, Sem.run_bind, Sem.run_pure, Result.andThen_ok, invoke]
    rw [e]
    exact this
  | method name =>
    have h2 : appK first args (fun as => hd as fun r rest => asIf r fun t v => (methC P t name).run h v fun g x => call g (x :: rest) h n k) = true := h1
    have h3 := appK_of h2
    obtain ⟨r, rest, he, h4⟩ := hd_of h3
    obtain ⟨t, v0, rfl, h5⟩ := asIf_of h4
    obtain ⟨g, x, h6, h7⟩ := callMethod_of h5
    obtain ⟨v, h', n', g1, g2⟩ := hc _ _ _ _ _ h6
    refine ⟨v, h', n', g1, fun φ w cf cargs hr hf ha => ?_⟩
    simp only [VR] at hf
    obtain ⟨xs, ys, rfl, r1, r2⟩ := hf
    have hall := VRs.append r1 ha
    rw [he] at hall
    obtain ⟨cr, crest, hce, q1, q2⟩ := hall.uncons
    obtain ⟨cx, e1, e2⟩ := h7 φ n w cr crest hr q1
    have e : ((do let d ← Deferred.ofValue (.func (.method name) xs ys) cargs; invoke d.target d.args : Sem Next).run P w) = (callMethod cr name crest.toArray).run P w := by
      have hx : xs ++ cargs = (cr :: crest).toArray := by
        rw [← hce]
        apply Array.ext'
        simp
      simp [Deferred.ofValue, invoke, hx]
    rw [e, e1]
    exact g2 φ _ w hr (VRs.cons e2 q2)
  | _ => cases h1

theorem call_value_ok (f : Operand) (args : Array Operand) (ts : Array TypeId) : LoudOk P (.call ⟨.value f, args, ts⟩) (loudC P (.call ⟨.value f, args, ts⟩)) := by
  intro call hc vs h n k hk
  obtain ⟨x, r, rfl, h1⟩ := hd_of hk
  obtain ⟨v, h', n', g1, g2⟩ := callK_of hc h1
  refine ⟨v, h', n', g1, fun φ ρ o w ho hr hvr => ?_⟩
  have hvr' : VRs φ (x :: r) (ρ f :: (args.map ρ).toList) := by simpa [Op.operands, Call.operands] using hvr
  simp only [VRs] at hvr'
  have := g2 φ w (ρ f) (args.map ρ) hr hvr'.1 hvr'.2
  simp only [execOp, ho, resolve]
  exact this

theorem call_invoke_ok (recv : Operand) (name : String) (args : Array Operand) (ts : Array TypeId) : LoudOk P (.call ⟨.invoke recv name, args, ts⟩) (loudC P (.call ⟨.invoke recv name, args, ts⟩)) := by
  intro call hc vs h n k hk
  obtain ⟨x, r, rfl, h1⟩ := hd_of hk
  obtain ⟨t, v0, rfl, h2⟩ := asIf_of h1
  obtain ⟨g, y, h3, h4⟩ := callMethod_of h2
  obtain ⟨v, h', n', g1, g2⟩ := hc _ _ _ _ _ h3
  refine ⟨v, h', n', g1, fun φ ρ o w ho hr hvr => ?_⟩
  have hvr' : VRs φ (.ifc t v0 :: r) (ρ recv :: (args.map ρ).toList) := by simpa [Op.operands, Call.operands] using hvr
  have hvr2 := hvr'
  simp only [VRs] at hvr2
  obtain ⟨cx, e1, e2⟩ := h4 φ n w (ρ recv) (args.map ρ).toList hr hvr2.1
  have e : (execOp ρ o).run P w = (callMethod (ρ recv) name (args.map ρ).toList.toArray).run P w := by
    have hx : (#[ρ recv] ++ args.map ρ).extract 1 (#[ρ recv] ++ args.map ρ).size = (args.map ρ).toList.toArray := by
      apply Array.ext'
      simp [List.take_of_length_le]
    have h0 : ((#[ρ recv] ++ args.map ρ : Array Value))[(0 : Nat)]? = some (ρ recv) := by rw [← Array.getElem?_toList]; simp
    simp only [execOp, ho, resolve, Sem.run_bind, Sem.run_pure, Result.andThen_ok, invoke]
    rw [h0]
    simp only [hx]
  rw [e, e1]
  exact g2 φ _ w hr (VRs.cons e2 hvr2.2)

theorem loudC_ok (op : Op) : LoudOk P op (loudC P op) := by
  cases op with
  | store t p x => exact store_ok t p x
  | mapUpdate t m k x => exact mapPut_ok (m := m) (key := k) (x := x) (by simp [Op.operands]) (fun ρ o ho => by simp only [execOp, ho])
  | insert t m k x => exact mapPut_ok (m := m) (key := k) (x := x) (by simp [Op.operands]) (fun ρ o ho => by simp only [execOp, ho])
  | call c =>
    obtain ⟨callee, args, ts⟩ := c
    cases callee with
    | builtin b => cases b <;> first | exact append_ok args ts | exact copy_ok args ts | exact clear_ok args ts | exact delete_ok args ts | exact unsafeString_ok args ts | exact loudBad_ok _
    | value f => exact call_value_ok f args ts
    | invoke r name => exact call_invoke_ok r name args ts
  | _ => exact loudBad_ok _

end
end Go.Am
