/- Operations that act: stores. -/
import Derived.Test.YtlkglgdlnciicaaGreatDoorAmAlloc
import Derived.Laws.CopyRow
import Derived.Calls
import Derived.Laws.NewFold
set_option linter.all false
namespace Go.Am
open Go

section
variable {P : Program}

/-- what an operation, a call come to -/
def Does (P : Program) (r : Result Next) (K : Value → World → Prop) : Prop := match r with
  | .ok (.value v) w' => K v w'
  | .ok .skip w' => K undef w'
  | .ok (.enter f args) w' => Calls P f args w' fun e w'' => match e with
    | .returned v => K v w''
    | _ => False
  | _ => False

/-- what is there behind a step -/
def After (P : Program) (φ : Phi) (h : Hp) (n : Pos) (w : World) (v : AV) (h' : Hp) (n' : Pos) : Value → World → Prop :=
  fun cv w' => ∃ φ', HRel P φ' h' n' w' ∧ Fr φ h n w φ' h' n' w' ∧ VR φ' v cv

def CallerOk (P : Program) (call : Caller) : Prop :=
  ∀ f args h n k, call f args h n k = true → ∃ v h' n', k v h' n' = true ∧ ∀ (φ : Phi) (cargs : List Value) (w : World), HRel P φ h n w → VRs φ args cargs →
    Does P ((callFunc f cargs.toArray).run P w) (After P φ h n w v h' n')

def LoudOk (P : Program) (op : Op) (f : LoudC) : Prop :=
  ∀ call, CallerOk P call → ∀ vs h n k, f.run call vs h n k = true → ∃ v h' n', k v h' n' = true ∧ ∀ (φ : Phi) (ρ : Operand → Value) (o : Oper) (w : World), o.op = op → HRel P φ h n w → VRs φ vs (op.operands.toList.map ρ) →
    Does P ((execOp ρ o).run P w) (After P φ h n w v h' n')

theorem loudBad_ok (op : Op) : LoudOk P op loudBad := fun _ _ _ _ _ _ h => by cases h

theorem Does.mono {r : Result Next} {K K' : Value → World → Prop} (h : Does P r K) (hk : ∀ v w, K v w → K' v w) : Does P r K' := by
  unfold Does at *
  split at h
  · exact hk _ _ h
  · exact hk _ _ h
  · intro cs
    obtain ⟨e, w', fr, hR, rest⟩ := h cs
    refine ⟨e, w', fr, ?_, rest⟩
    cases e with
    | returned v => exact hk _ _ hR
    | _ => exact hR
  · exact h

theorem VR_undef (φ : Phi) : VR φ undefA undef := by
  unfold undefA
  simp only [VR]
  exact ⟨#[], rfl, by simp [VRs]⟩

theorem flat_oneCell {φ : Phi} {x : AV} {v : Value} (hf : x.flat = true) (hr : VR φ x v) : v.oneCell' = true := by
  cases x <;> simp only [VR] at hr <;> first | (cases hf; done) | skip
  all_goals first | (subst hr; rfl) | (obtain ⟨_, rfl, _⟩ := hr; rfl) | (obtain ⟨_, _, _, _, rfl⟩ := hr; rfl) | (obtain ⟨_, _, _, _, _, _, rfl, _⟩ := hr; rfl) | (obtain ⟨_, _, rfl, _⟩ := hr; rfl)

theorem flats_oneCell {φ : Phi} : ∀ {xs : List AV} {vs : List Value}, VRs φ xs vs → (∀ x ∈ xs, x.flat = true) → ∀ v ∈ vs, v.oneCell' = true
  | [], [], _, _ => by simp
  | [], _ :: _, r, _ => by simp [VRs] at r
  | _ :: _, [], r, _ => by simp [VRs] at r
  | x :: xs, v :: vs, r, h => by
    simp only [VRs] at r
    intro u hu
    rcases List.mem_cons.1 hu with rfl | hu
    · exact flat_oneCell (h x (by simp)) r.1
    · exact flats_oneCell r.2 (fun y hy => h y (by simp [hy])) u hu

theorem lay_list {c cvs : List Value} {base off len : Nat} (h : base + len ≤ c.length) (hk : off + cvs.length ≤ len) :
    ((c.take (base + off) ++ cvs ++ c.drop (base + off + cvs.length)).drop base).take len =
      (((c.drop base).take len).take off) ++ (cvs ++ ((c.drop base).take len).drop (off + cvs.length)) := by
  apply List.ext_getElem?
  intro j
  simp only [List.getElem?_take, List.getElem?_drop, List.getElem?_append, List.length_take, List.length_append, List.length_drop]
  by_cases hj : j < len
  · rw [if_pos hj]
    by_cases h1 : j < off
    · rw [if_pos (show base + j < min (base + off) c.length + cvs.length by omega), if_pos (show base + j < min (base + off) c.length by omega), if_pos (show base + j < base + off by omega),
        if_pos (show j < min off (min len (c.length - base)) by omega), if_pos h1, if_pos hj]
    · by_cases h2 : j < off + cvs.length
      · rw [if_pos (show base + j < min (base + off) c.length + cvs.length by omega), if_neg (show ¬ base + j < min (base + off) c.length by omega),
          if_neg (show ¬ j < min off (min len (c.length - base)) by omega), if_pos (show j - min off (min len (c.length - base)) < cvs.length by omega)]
        congr 1
        omega
      · rw [if_neg (show ¬ base + j < min (base + off) c.length + cvs.length by omega), 
          if_neg (show ¬ j < min off (min len (c.length - base)) by omega), if_neg (show ¬ j - min off (min len (c.length - base)) < cvs.length by omega),
          if_pos (show off + cvs.length + (j - min off (min len (c.length - base)) - cvs.length) < len by omega)]
        congr 1
        omega
  · rw [if_neg hj]
    rw [if_neg (show ¬ j < min off (min len (c.length - base)) by omega), if_neg (show ¬ j - min off (min len (c.length - base)) < cvs.length by omega),
      if_neg (show ¬ off + cvs.length + (j - min off (min len (c.length - base)) - cvs.length) < len by omega)]

theorem run_store_cells {φ : Phi} {h : Hp} {n : Pos} {w : World} {id : Pos} {e : TypeId} {l : List AV} {b base room off : Nat} (hr : HRel P φ h n w) (hg : PT.get id h = some (.cells e l)) (hφ : φ id = some (b, base, room))
    {vs : List AV} {cvs : List Value} (hle : off + vs.length ≤ l.length) (hvs : VRs φ vs cvs) (hf : ∀ x ∈ vs, x.flat = true) :
    ∃ w', (storeCells ⟨b, base + off, none⟩ cvs).run P w = .ok () w' ∧ HRel P φ (PT.set (some (.cells e (l.take off ++ (vs ++ l.drop (off + vs.length))))) id h) n w' ∧
      Fr φ h n w φ (PT.set (some (.cells e (l.take off ++ (vs ++ l.drop (off + vs.length))))) id h) n w' := by
  obtain ⟨c, e1, e2, e3, e4, e5, e6⟩ := cells_atW hr hg hφ
  have hlen := hvs.length
  have hst := run_storeCells_at P b (base + off) e cvs 0 c w e1 (by omega) (flats_oneCell hvs hf)
  simp only [Nat.add_zero] at hst
  have hl' : (l.take off ++ (vs ++ l.drop (off + vs.length))).length = l.length := by simp; omega
  refine ⟨_, hst, hr.turn id _ hg rfl rfl hφ (by simp) (fun k hk => setRow_other _ _ _ _ hk) ⟨b, base, room, _, hφ, setRow_heap w b c _ e (0, 0) e1, ?_, ?_, ?_, ?_, e6⟩ rfl rfl rfl⟩
  · simp; omega
  · rw [hl']; exact e3
  · rw [hl', List.toList_toArray, lay_list (by simpa using (show base + l.length ≤ c.size by omega)) (by omega)]
    rw [← hlen]
    exact VRs.append (VRs.take off e4) (VRs.append hvs (VRs.drop _ e4))
  · intro x hx
    rcases List.mem_append.1 hx with h1 | h1
    · exact e5 x (List.mem_of_mem_take h1)
    · rcases List.mem_append.1 h1 with h2 | h2
      · exact hf x h2
      · exact e5 x (List.mem_of_mem_drop h2)

theorem storeK_of {h : Hp} {id : Pos} {off : Nat} {vs : List AV} {k : Hp → Bool} (hk : storeK h id off vs k = true) :
    ∃ e l, PT.get id h = some (.cells e l) ∧ off + vs.length ≤ l.length ∧ k (PT.set (some (.cells e (l.take off ++ (vs ++ l.drop (off + vs.length))))) id h) = true := by
  obtain ⟨e, l, hg, h1⟩ := cellsWK_of hk
  obtain ⟨h2, h3⟩ := layK_of h1
  exact ⟨e, l, hg, h2, setK_of h3⟩

theorem exec_u {s : Sem Unit} {w w' : World} (h : s.run P w = .ok () w') : (do s; pure Next.skip : Sem Next).run P w = .ok .skip w' := by
  simp [h]

theorem store_ok (t : TypeId) (p x : Operand) : LoudOk P (.store t p x) (loudC P (.store t p x)) := by
  unfold loudC
  simp only
  cases hz : szT P t with
  | none => exact loudBad_ok _
  | some m =>
    intro call _ vs h n k hk
    obtain ⟨a, y, r, rfl, h1⟩ := duo_of hk
    obtain ⟨id, off, rfl, h2⟩ := asP_of h1
    obtain ⟨xs, h3, _, hc⟩ := cellsV_det h2
    obtain ⟨hm, h4⟩ := wK_of h3
    have hm := nbeq_of hm
    rw [lenN_eq] at hm
    obtain ⟨e, l, hg, hle, h5⟩ := storeK_of h4
    refine ⟨_, _, _, h5, fun φ ρ o w ho hr hvr => ?_⟩
    obtain ⟨r1, r2⟩ := vrs2 (v := ρ p) (u := ρ x) (by simpa [Op.operands] using hvr)
    simp only [VR] at r1
    obtain ⟨b, base, room, hφ, ev⟩ := r1
    obtain ⟨rx, fx⟩ := hc φ (ρ x) r2
    obtain ⟨w', e1, e2, e3⟩ := run_store_cells hr hg hφ hle rx fx
    have : (execOp ρ o).run P w = .ok .skip w' := by
      simp only [execOp, ho]
      apply exec_u
      have hsz : (ρ x).cells.size = m := by rw [← hm, rx.length]; simp
      simp [Instr.storeAt, Instr.sureAddr, ev, storeVar, run_sizeOf_of hz, hsz, e1]
    rw [this]
    exact ⟨φ, e2, e3, VR_undef φ⟩

end
end Go.Am
/- Operations that act: maps. -/
namespace Go.Am
open Go

section
variable {P : Program}

mutual
theorem avEq_of : ∀ {x y : AV}, avEq x y = true → x = y
  | .b x, y, h => by cases y <;> simp [avEq] at h; subst h; rfl
  | .i k n, y, h => by
    cases y <;> simp [avEq] at h
    obtain ⟨h1, h2⟩ := h
    rw [kindEq_of h1]
    rw [ieq_eq] at h2
    simp at h2
    rw [h2]
  | .s l, y, h => by
    cases y <;> simp [avEq] at h
    rw [leq_eq] at h
    simp at h
    rw [h]
  | .nilp, y, h => by cases y <;> simp [avEq] at h; rfl
  | .ptr a b, y, h => by
    cases y <;> simp [avEq] at h
    rw [Pos.eq_of h.1, h.2]
  | .nilsl, y, h => by cases y <;> simp [avEq] at h; rfl
  | .sl a b c d e, y, h => by
    cases y with
    | sl a' b' c' d' e' =>
      simp only [avEq, Bool.and_eq_true] at h
      obtain ⟨⟨⟨⟨h1, h2⟩, h3⟩, h4⟩, h5⟩ := h
      rw [Pos.eq_of h1, nbeq_of h2, nbeq_of h3, nbeq_of h4]
      cases d <;> cases d' <;> simp at h5
      · rfl
      · rw [h5]
    | _ => simp [avEq] at h
  | .nilmp, y, h => by cases y <;> simp [avEq] at h; rfl
  | .mp a, y, h => by
    cases y <;> simp [avEq] at h
    rw [Pos.eq_of h]
  | .nilfn, y, h => by cases y <;> simp [avEq] at h; rfl
  | .fn f x y, z, h => by
    cases f <;> cases z <;> try (simp [avEq] at h; done)
    rename_i f' _ _ 
    cases f' <;> simp [avEq] at h
    obtain ⟨⟨h1, h2⟩, h3⟩ := h
    rw [h1, avEqs_of h2, avEqs_of h3]
  | .nilif, y, h => by cases y <;> simp [avEq] at h; rfl
  | .ifc t x, y, h => by
    cases y <;> simp [avEq] at h
    rw [h.1, avEq_of h.2]
  | .agg l, y, h => by
    cases y <;> simp [avEq] at h
    rw [avEqs_of h]
  | .tup l, y, h => by
    cases y <;> simp [avEq] at h
    rw [avEqs_of h]
theorem avEqs_of : ∀ {x y : List AV}, avEqs x y = true → x = y
  | [], [], _ => rfl
  | [], _ :: _, h => by simp [avEqs] at h
  | _ :: _, [], h => by simp [avEqs] at h
  | x :: xs, y :: ys, h => by
    simp only [avEqs, Bool.and_eq_true] at h
    rw [avEq_of h.1, avEqs_of h.2]
end

theorem setAtK_of {key : AV} : ∀ {es : List (AV × AV)} {j : Nat} {v : AV} {k : List (AV × AV) → Bool}, setAtK key es j v k = true →
    ∃ u, es[j]? = some (key, u) ∧ k (es.set j (key, v)) = true
  | [], j, v, k, h => by cases h
  | x :: es, 0, v, k, h => by
    have h' : wK (avEq key x.1) (k ((x.1, v) :: es)) = true := h
    obtain ⟨h1, h2⟩ := wK_of h'
    have := avEq_of h1
    subst this
    exact ⟨x.2, rfl, h2⟩
  | x :: es, j + 1, v, k, h => by
    have h' : setAtK key es j v (fun r' => k (x :: r')) = true := h
    obtain ⟨u, h1, h2⟩ := setAtK_of h'
    exact ⟨u, by simpa using h1, by simpa using h2⟩

theorem delAtK_of : ∀ {es : List (AV × AV)} {j : Nat} {k : List (AV × AV) → Bool}, delAtK es j k = true → k (es.eraseIdx j) = true
  | [], j, k, h => by cases h
  | x :: es, 0, k, h => h
  | x :: es, j + 1, k, h => by
    have h' : delAtK es j (fun r' => k (x :: r')) = true := h
    simpa using delAtK_of h'

theorem ERs.set {φ : Phi} {x v : AV} {f : MapEntry → MapEntry} : ∀ {l : List (AV × AV)} {es : List MapEntry} {i : Nat}, ERs φ l es → (∀ e, es[i]? = some e → VR φ x (f e).key ∧ VR φ v (f e).val) → ERs φ (l.set i (x, v)) (es.modify i f)
  | [], [], i, _, _ => by simp [ERs]
  | [], _ :: _, _, r, _ => by simp [ERs] at r
  | _ :: _, [], _, r, _ => by simp [ERs] at r
  | (k, u) :: l, e :: es, 0, r, hf => by
    simp only [ERs] at r
    simp only [List.set_cons_zero, List.modify_zero_cons, ERs]
    exact ⟨(hf e rfl).1, (hf e rfl).2, r.2.2⟩
  | (k, u) :: l, e :: es, i + 1, r, hf => by
    simp only [ERs] at r
    simp only [List.set_cons_succ, List.modify_succ_cons, ERs]
    exact ⟨r.1, r.2.1, ERs.set r.2.2 (fun e he => hf e (by simpa using he))⟩

theorem ERs.push {φ : Phi} {x v : AV} {e : MapEntry} (hx : VR φ x e.key) (hv : VR φ v e.val) : ∀ {l : List (AV × AV)} {es : List MapEntry}, ERs φ l es → ERs φ (l ++ [(x, v)]) (es ++ [e])
  | [], [], _ => by simp [ERs, hx, hv]
  | [], _ :: _, r => by simp [ERs] at r
  | _ :: _, [], r => by simp [ERs] at r
  | (k, u) :: l, e :: es, r => by
    simp only [ERs] at r
    simp only [List.cons_append, ERs]
    exact ⟨r.1, r.2.1, ERs.push hx hv r.2.2⟩

theorem ERs.erase {φ : Phi} : ∀ {l : List (AV × AV)} {es : List MapEntry} {i : Nat}, ERs φ l es → ERs φ (l.eraseIdx i) (es.eraseIdx i)
  | [], [], i, _ => by simp [ERs]
  | [], _ :: _, _, r => by simp [ERs] at r
  | _ :: _, [], _, r => by simp [ERs] at r
  | (k, u) :: l, e :: es, 0, r => by
    simp only [ERs] at r
    simpa using r.2.2
  | (k, u) :: l, e :: es, i + 1, r => by
    simp only [ERs] at r
    simp only [List.eraseIdx_cons_succ, ERs]
    exact ⟨r.1, r.2.1, ERs.erase r.2.2⟩

theorem run_smap {w : World} {b : Nat} {c : Array MapEntry} {clock : Nat} (o : Obj) (hb : w.heap[b]? = some (.map c clock)) : (setObj b o).run P w = .ok () { w with heap := w.heap.setIfInBounds b o } := by
  have := MapKept.run_setObj_map (P := P) o hb
  simpa using this

/-- a map's block is turned -/
theorem HRel.map {φ : Phi} {h : Hp} {n : Pos} {w : World} (hr : HRel P φ h n w) {id : Pos} {es es' : List (AV × AV)} (hg : PT.get id h = some (.mp es)) {b base room : Nat} (hφ : φ id = some (b, base, room)) {c c' : Array MapEntry} {clock clock' : Nat}
    (hb : w.heap[b]? = some (.map c clock)) (he : ERs φ es' c'.toList) :
    HRel P φ (PT.set (some (.mp es')) id h) n { w with heap := w.heap.setIfInBounds b (.map c' clock') } ∧ Fr φ h n w φ (PT.set (some (.mp es')) id h) n { w with heap := w.heap.setIfInBounds b (.map c' clock') } := by
  have hlt : b < w.heap.size := (Array.getElem?_eq_some_iff.1 hb).1
  refine hr.turn id _ hg rfl rfl hφ (by simp) (fun k hk => ?_) ⟨b, base, room, c', clock', hφ, ?_, he⟩ rfl rfl rfl
  · simp [Ne.symm hk]
  · simp [hlt]

/-- a hit in a map: of whichever key stays -/
theorem run_mapUpdate {h : Hp} {t kt e : TypeId} {key v : AV} {id : Pos} {es : List (AV × AV)} {k : Hp → Bool} (hu : P.underlying t = some (.map kt e)) (hkey : (keyC P 10 kt).run key = true) (hg : PT.get id h = some (.mp es))
    (hk : findK (eqC P 20 kt) key es 0 (fun j _ => setAtK key es j v fun es' => PT.setK id (some (.mp es')) h k) (fun _ => appK es [(key, v)] fun es' => PT.setK id (some (.mp es')) h k) = true) :
    ∃ es', k (PT.set (some (.mp es')) id h) = true ∧ ∀ (φ : Phi) (n : Pos) (w : World) (ck cv : Value) (b base room : Nat), HRel P φ h n w → φ id = some (b, base, room) → VR φ key ck → VR φ v cv →
      ∃ w', (Instr.mapUpdate t (.map (some b)) ck cv).run P w = .ok () w' ∧ HRel P φ (PT.set (some (.mp es')) id h) n w' ∧ Fr φ h n w φ (PT.set (some (.mp es')) id h) n w' := by
  obtain ⟨kd, hkd⟩ : ∃ kd, P.underlying kt = some kd := by
    cases hu' : P.underlying kt with
    | none => unfold keyC at hkey; rw [hu'] at hkey; cases hkey
    | some kd => exact ⟨kd, rfl⟩
  rcases findK_of es 0 _ _ hk with ⟨i, y, u, e1, e2, e3, e4⟩ | ⟨e1, e2⟩
  · rw [Nat.zero_add] at e2
    obtain ⟨u', g1, g2⟩ := setAtK_of e2
    have g3 := setK_of g2
    rw [e1] at g1
    simp only [Option.some.injEq, Prod.mk.injEq] at g1
    obtain ⟨rfl, rfl⟩ := g1
    refine ⟨_, g3, fun φ n w ck cv b base room hr hφ rk rv => ?_⟩
    obtain ⟨c, clock, hb, her⟩ := map_at hr hg hφ
    obtain ⟨me, f1, f2, f3, f4⟩ := asking_yes rk w es c.toList 0 i y u her e1 e3 e4
    rw [Nat.zero_add] at f4
    have hck := keyC_ok (P := P) 10 kt y hkey φ ck 10000 false w rk (by decide)
    have hme : c[i]? = some me := by simpa using f1
    have fin : ∀ (w' : World) (kk : Value), VR φ y kk → w'.heap[b]? = some (.map c clock) → ∃ w'', (setObj b (.map (c.modify i fun e => { e with key := kk, val := cv }) clock)).run P w' = .ok () w'' ∧ w'' = { w' with heap := w'.heap.setIfInBounds b (.map (c.modify i fun e => { e with key := kk, val := cv }) clock) } ∧
        ERs φ (es.set i (y, v)) (c.modify i fun e => { e with key := kk, val := cv }).toList := fun w' kk hkk hb' =>
      ⟨_, run_smap _ hb', rfl, by
        rw [Array.toList_modify]
        exact her.set fun e _ => ⟨hkk, rv⟩⟩
    by_cases hs : Instr.sameBits 10000 me.key ck = true
    · obtain ⟨w', q1, q2, q3⟩ := fin w ck rk hb
      refine ⟨w', ?_, ?_⟩
      · simp only [Instr.mapUpdate, Sem.run_bind, run_underlying hu, Result.andThen_ok, run_gmap hb, hck]
        rw [findKey_asking hkd, f4]
        simp [Instr.keyThatStays, hme, hs, q1]
      · subst q2
        exact hr.map hg hφ hb q3
    · have hks : (Instr.keyThatStays me.key ck).run P w = .ok (if (Question.extern "map.whichKeyStays" 2).cut (w.tape w.drawn (.extern "map.whichKeyStays" 2)) = 0 then ck else me.key) w.drew := by
        simp only [Instr.keyThatStays, if_neg hs, Sem.run_bind, run_choose_drew, Question.forced, Sem.run_pure]
        rfl
      by_cases hz : (Question.extern "map.whichKeyStays" 2).cut (w.tape w.drawn (.extern "map.whichKeyStays" 2)) = 0
      · obtain ⟨w', q1, q2, q3⟩ := fin w.drew ck rk hb
        refine ⟨w', ?_, ?_⟩
        · simp only [Instr.mapUpdate, Sem.run_bind, run_underlying hu, Result.andThen_ok, run_gmap hb, hck]
          rw [findKey_asking hkd, f4]
          simp only [Result.andThen_ok, Sem.run_bind, hme, Option.map_some, Option.getD_some]
          rw [hks, if_pos hz]
          exact q1
        · subst q2
          obtain ⟨a1, a2⟩ := (hr.drew).map (clock' := clock) hg hφ hb q3
          exact ⟨a1, (Fr.drew φ h n w).trans a2⟩
      · obtain ⟨w', q1, q2, q3⟩ := fin w.drew me.key f2 hb
        refine ⟨w', ?_, ?_⟩
        · simp only [Instr.mapUpdate, Sem.run_bind, run_underlying hu, Result.andThen_ok, run_gmap hb, hck]
          rw [findKey_asking hkd, f4]
          simp only [Result.andThen_ok, Sem.run_bind, hme, Option.map_some, Option.getD_some]
          rw [hks, if_neg hz]
          exact q1
        · subst q2
          obtain ⟨a1, a2⟩ := (hr.drew).map (clock' := clock) hg hφ hb q3
          exact ⟨a1, (Fr.drew φ h n w).trans a2⟩
  · have g2 := appK_of e1
    have g3 := setK_of g2
    refine ⟨_, g3, fun φ n w ck cv b base room hr hφ rk rv => ?_⟩
    obtain ⟨c, clock, hb, her⟩ := map_at hr hg hφ
    have f4 := asking_no (P := P) rk w es c.toList 0 her e2
    have hck := keyC_ok (P := P) 10 kt key hkey φ ck 10000 false w rk (by decide)
    refine ⟨_, ?_, hr.map (c' := c.push { key := ck, val := cv, born := clock }) (clock' := clock + 1) hg hφ hb (by rw [Array.toList_push]; exact ERs.push rk rv her)⟩
    simp only [Instr.mapUpdate, Sem.run_bind, run_underlying hu, Result.andThen_ok, run_gmap hb, hck]
    rw [findKey_asking hkd, f4]
    simp [run_smap _ hb]

theorem mapPut_ok {op : Op} {t : TypeId} {m key x : Operand} (hops : op.operands.toList = [m, key, x]) (hex : ∀ (ρ : Operand → Value) (o : Oper), o.op = op → execOp ρ o = (do Instr.mapUpdate t (ρ m) (ρ key) (ρ x); pure .skip)) : LoudOk P op (mapPutC P t) := by
  unfold mapPutC
  cases hu : P.underlying t with
  | none => exact loudBad_ok _
  | some D =>
    cases D <;> simp only <;> (try exact loudBad_ok _)
    case map kt e =>
      intro call _ vs h n k hk
      obtain ⟨a, r0, rfl, h1⟩ := hd_of hk
      obtain ⟨y, v, r, rfl, h2⟩ := duo_of h1
      obtain ⟨hkey, h3⟩ := wK_of h2
      rcases asMp_of h3 with ⟨_, hbad⟩ | ⟨id, rfl, h4⟩
      · cases hbad
      · obtain ⟨es, hg, h5⟩ := mapK_of h4
        obtain ⟨es', g1, g2⟩ := run_mapUpdate (k := fun h' => k undefA h' n) hu hkey hg h5
        refine ⟨_, _, _, g1, fun φ ρ o w ho hr hvr => ?_⟩
        rw [hops] at hvr
        obtain ⟨r1, r2, r3⟩ := vrs3 (v := ρ m) (u := ρ key) (t := ρ x) (by simpa using hvr)
        simp only [VR] at r1
        obtain ⟨b, base, room, hφ, ev⟩ := r1
        obtain ⟨w', q1, q2, q3⟩ := g2 φ n w (ρ key) (ρ x) b base room hr hφ r2 r3
        rw [hex ρ o ho, ev, exec_u q1]
        exact ⟨φ, q2, q3, VR_undef φ⟩

theorem delete_ok (args : Array Operand) (ts : Array TypeId) : LoudOk P (.call ⟨.builtin .delete, args, ts⟩) (loudC P (.call ⟨.builtin .delete, args, ts⟩)) := by
  show LoudOk P _ (deleteC P ts)
  unfold deleteC
  cases ht : ts[0]? with
  | none => exact loudBad_ok _
  | some t =>
    simp only
    cases hu : P.underlying t with
    | none => exact loudBad_ok _
    | some D =>
      cases D <;> simp only <;> (try exact loudBad_ok _)
      case map kt e =>
        intro call _ vs h n k hk
        obtain ⟨m, key, r, rfl, h1⟩ := duo_of hk
        obtain ⟨hkey, h2⟩ := wK_of h1
        obtain ⟨kd, hkd⟩ : ∃ kd, P.underlying kt = some kd := by
          cases hu' : P.underlying kt with
          | none => unfold keyC at hkey; rw [hu'] at hkey; cases hkey
          | some kd => exact ⟨kd, rfl⟩
        rcases asMp_of h2 with ⟨rfl, h3⟩ | ⟨id, rfl, h3⟩
        · refine ⟨_, _, _, h3, fun φ ρ o w ho hr hvr => ?_⟩
          rw [exec_call_operands] at hvr
          obtain ⟨u1, us, e1, r1, hvr2⟩ := args_one hvr
          obtain ⟨u2, us', rfl, r2, _⟩ := hvr2.uncons
          simp only [VR] at r1
          subst r1
          have hck := keyC_ok (P := P) 10 kt key hkey φ u2 10000 true w r2 (by decide)
          rw [exec_call ho, e1]
          have : ∀ cb : Array Bool, (builtin .delete ts o.type cb (Value.map none :: u2 :: us').toArray).run P w = .ok (.value (.tuple #[])) w := by
            intro cb
            simp [builtin, Builtin.delete_, ht, run_underlying hu, hck]
          rw [this]
          exact ⟨φ, hr, Fr.refl _ _ _ _, VR_undef φ⟩
        · obtain ⟨es, hg, h4⟩ := mapK_of h3
          rcases findK_of es 0 _ _ h4 with ⟨i, y, v, e1, e2, e3, e4⟩ | ⟨e1, e2⟩
          · rw [Nat.zero_add] at e2
            have g1 := setK_of (delAtK_of e2)
            refine ⟨_, _, _, g1, fun φ ρ o w ho hr hvr => ?_⟩
            rw [exec_call_operands] at hvr
            obtain ⟨u1, us, q1, r1, hvr2⟩ := args_one hvr
            obtain ⟨u2, us', rfl, r2, _⟩ := hvr2.uncons
            simp only [VR] at r1
            obtain ⟨b, base, room, hφ, rfl⟩ := r1
            obtain ⟨c, clock, hb, her⟩ := map_at hr hg hφ
            obtain ⟨me, f1, f2, f3, f4⟩ := asking_yes r2 w es c.toList 0 i y v her e1 e3 e4
            rw [Nat.zero_add] at f4
            have hck := keyC_ok (P := P) 10 kt key hkey φ u2 10000 c.isEmpty w r2 (by decide)
            obtain ⟨a1, a2⟩ := hr.map (c' := c.eraseIdxIfInBounds i) (clock' := clock) hg hφ hb (es' := es.eraseIdx i) (by
              rw [Array.toList_eraseIdxIfInBounds]; exact her.erase)
            rw [exec_call ho, q1]
            have : ∀ cb : Array Bool, (builtin .delete ts o.type cb (Value.map (some b) :: u2 :: us').toArray).run P w = .ok (.value (.tuple #[])) { w with heap := w.heap.setIfInBounds b (.map (c.eraseIdxIfInBounds i) clock) } := by
              intro cb
              simp only [builtin]
              apply exec_v
              simp only [Builtin.delete_, ht, List.getElem?_toArray, List.getElem?_cons_zero, List.getElem?_cons_succ, Sem.run_bind, run_underlying hu, Result.andThen_ok, run_gmap hb, hck]
              rw [findKey_asking hkd, f4]
              simp [run_smap _ hb]
            rw [this]
            exact ⟨φ, a1, a2, VR_undef φ⟩
          · refine ⟨_, _, _, e1, fun φ ρ o w ho hr hvr => ?_⟩
            rw [exec_call_operands] at hvr
            obtain ⟨u1, us, q1, r1, hvr2⟩ := args_one hvr
            obtain ⟨u2, us', rfl, r2, _⟩ := hvr2.uncons
            simp only [VR] at r1
            obtain ⟨b, base, room, hφ, rfl⟩ := r1
            obtain ⟨c, clock, hb, her⟩ := map_at hr hg hφ
            have f4 := asking_no (P := P) r2 w es c.toList 0 her e2
            have hck := keyC_ok (P := P) 10 kt key hkey φ u2 10000 c.isEmpty w r2 (by decide)
            have hsame : ({ w with heap := w.heap.setIfInBounds b (.map c clock) } : World) = w := by
              have : w.heap.setIfInBounds b (.map c clock) = w.heap := by
                apply Array.ext_getElem?
                intro k
                rw [Array.getElem?_setIfInBounds]
                by_cases hk : b = k
                · subst hk
                  rw [if_pos rfl, if_pos (Array.getElem?_eq_some_iff.1 hb).1, hb]
                · simp [hk]
              rw [this]
            rw [exec_call ho, q1]
            have : ∀ cb : Array Bool, (builtin .delete ts o.type cb (Value.map (some b) :: u2 :: us').toArray).run P w = .ok (.value (.tuple #[])) w := by
              intro cb
              simp only [builtin]
              apply exec_v
              simp only [Builtin.delete_, ht, List.getElem?_toArray, List.getElem?_cons_zero, List.getElem?_cons_succ, Sem.run_bind, run_underlying hu, Result.andThen_ok, run_gmap hb, hck]
              rw [findKey_asking hkd, f4]
              simp [run_smap _ hb, hsame]
            rw [this]
            exact ⟨φ, hr, Fr.refl _ _ _ _, VR_undef φ⟩

end
end Go.Am
