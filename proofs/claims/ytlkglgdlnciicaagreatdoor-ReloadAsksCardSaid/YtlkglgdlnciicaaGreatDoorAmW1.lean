/- What a walk asks at each step (1): slots, stores, appends, maps. -/
import Derived.Test.YtlkglgdlnciicaaGreatDoorAmV3
set_option linter.all false
namespace Go.Am
open Go

/-! slots -/
abbrev Ev := List (Nat × AV)
def lk (t : Nat) : Ev → Option AV
  | [] => none
  | x :: r => if x.1 = t then some x.2 else lk t r

/-- a machine's environment knows as much -/
def Sub (nt : Nat) (l : Ev) (e : Env) : Prop := ∀ t v, lk t l = some v → t < nt ∧ PT.get (posOf t) e = some v

theorem Sub.put {nt t : Nat} (hnt : nt ≤ 100000) {l : Ev} {e : Env} (h : Sub nt l e) (ht : t < nt) (v : AV) : Sub nt ((t, v) :: l) (PT.set (some v) (posOf t) e) := by
  intro s u hs
  simp only [lk] at hs
  split at hs
  · rename_i hst
    subst hst
    injection hs with hs
    subst hs
    exact ⟨ht, get_set_same _ _ _⟩
  · rename_i hst
    obtain ⟨h1, h2⟩ := h s u hs
    exact ⟨h1, by rw [get_set_ne _ _ _ _ (fun hp => hst (posOf_inj (by omega) (by omega) hp))]; exact h2⟩

def evO (x : Operand) (l : Ev) : Option AV := match x with
  | .tmp t => lk t l
  | .const c => ofV c
  | .global _ => none
  | .func f => some (.fn (.func f) [] [])
def evOs : List Operand → Ev → Option (List AV)
  | [], _ => some []
  | x :: xs, l => match evO x l with
    | some v => match evOs xs l with
      | some vs => some (v :: vs)
      | none => none
    | none => none

theorem opndC_eq {nt : Nat} {x : Operand} {l : Ev} {e : Env} {v : AV} {k : AV → Bool} (hs : Sub nt l e) (h : evO x l = some v) : (opndC nt x).run e k = k v := by
  cases x with
  | tmp t =>
    obtain ⟨ht, hg⟩ := hs t v h
    unfold opndC slotOf
    simp only
    rw [nble_true (Nat.succ_le_of_lt ht)]
    exact getK_eq hg
  | const c =>
    have h' : ofV c = some v := h
    unfold opndC
    simp only [h']
  | global g => cases h
  | func f => injection h with h; subst h; rfl
theorem opndsC_eq {nt : Nat} : ∀ {xs : List Operand} {l : Ev} {e : Env} {vs : List AV} {k : List AV → Bool}, Sub nt l e → evOs xs l = some vs → (opndsC nt xs).run e k = k vs
  | [], l, e, vs, k, hs, h => by injection h with h; subst h; rfl
  | x :: xs, l, e, vs, k, hs, h => by
    simp only [evOs] at h
    cases hx : evO x l with
    | none => rw [hx] at h; cases h
    | some v =>
      rw [hx] at h
      cases hr : evOs xs l with
      | none => simp only [hr] at h; cases h
      | some ws =>
        simp only [hr] at h
        injection h with h
        subst h
        show (opndC nt x).run e (fun v => (opndsC nt xs).run e fun vs => k (v :: vs)) = _
        rw [opndC_eq hs hx, opndsC_eq hs hr]

def putE (nt : Nat) (d : Option Nat) (v : AV) (l : Ev) (K : Ev → Prop) : Prop := match d with
  | none => K l
  | some t => t < nt ∧ K ((t, v) :: l)
theorem putC_eq {nt : Nat} (hnt : nt ≤ 100000) {d : Option Nat} {l : Ev} {e : Env} {v : AV} {K : Ev → Prop} (hs : Sub nt l e) (h : putE nt d v l K) :
    ∃ l' e', Sub nt l' e' ∧ (∀ k : Env → Bool, (putC nt d).run e v k = k e') ∧ K l' := by
  cases d with
  | none => exact ⟨l, e, hs, fun k => rfl, h⟩
  | some t =>
    obtain ⟨ht, hk⟩ := h
    refine ⟨_, _, hs.put hnt ht v, fun k => ?_, hk⟩
    unfold putC slotOf
    simp only
    rw [nble_true (Nat.succ_le_of_lt ht)]
    exact setK_eq

section
variable {P : Program} {prim : FuncId → Option Prim}

/-- what a run comes to, whatever comes behind it, if calls may be deep enough -/
def Lead (X : Nat → (AV → Hp → Pos → Bool) → Bool) (K : AV → Hp → Pos → Prop) : Prop := ∃ v h n, (∃ d0, ∀ d, d0 ≤ d → ∀ k, X d k = k v h n) ∧ K v h n

/-- a call's contract -/
def AC (P : Program) (prim : FuncId → Option Prim) (f : FuncId) (args : List AV) (h : Hp) (n : Pos) (K : AV → Hp → Pos → Prop) : Prop := Lead (fun d k => callD P prim d f args h n k) K

theorem Lead.mono {X : Nat → (AV → Hp → Pos → Bool) → Bool} {K K' : AV → Hp → Pos → Prop} (h : Lead X K) (hk : ∀ v h n, K v h n → K' v h n) : Lead X K' := by
  obtain ⟨v, h', n, h1, h2⟩ := h
  exact ⟨v, h', n, h1, hk _ _ _ h2⟩
theorem AC.mono {f : FuncId} {args : List AV} {h : Hp} {n : Pos} {K K' : AV → Hp → Pos → Prop} (hc : AC P prim f args h n K) (hk : ∀ v h n, K v h n → K' v h n) : AC P prim f args h n K' := Lead.mono hc hk
theorem Lead.of_eq {X : Nat → (AV → Hp → Pos → Bool) → Bool} {K : AV → Hp → Pos → Prop} {v : AV} {h : Hp} {n : Pos} (hx : ∀ d k, X d k = k v h n) (hk : K v h n) : Lead X K := ⟨v, h, n, ⟨0, fun d _ k => hx d k⟩, hk⟩

/-! cells that may be written -/
def cellsWOf (h : Hp) (id : Pos) : Option (TypeId × List AV) := match PT.get id h with
  | some (.cells e l) => some (e, l)
  | _ => none
theorem cellsWK_eq {h : Hp} {id : Pos} {e : TypeId} {l : List AV} {k : TypeId → List AV → Bool} (hg : cellsWOf h id = some (e, l)) : cellsWK h id k = k e l := by
  unfold cellsWOf at hg
  unfold cellsWK
  cases hp : PT.get id h with
  | none => rw [hp] at hg; cases hg
  | some B =>
    rw [hp] at hg
    rw [getK_eq hp]
    cases B <;> simp only at hg <;> first | (cases hg; done) | (injection hg with hg; injection hg with h1 h2; subst h1 h2; rfl)

def storeV (h : Hp) (id : Pos) (off : Nat) (xs : List AV) : Option Hp := match cellsWOf h id with
  | some (e, l) => if off + xs.length ≤ l.length then some (PT.set (some (.cells e (l.take off ++ (xs ++ l.drop (off + xs.length))))) id h) else none
  | none => none
theorem storeK_eq {h h' : Hp} {id : Pos} {off : Nat} {xs : List AV} {k : Hp → Bool} (hs : storeV h id off xs = some h') : storeK h id off xs k = k h' := by
  unfold storeV at hs
  unfold storeK
  cases hc : cellsWOf h id with
  | none => rw [hc] at hs; cases hs
  | some q =>
    obtain ⟨e, l⟩ := q
    rw [hc] at hs
    simp only at hs
    split at hs
    · rename_i hl
      injection hs with hs
      subst hs
      rw [cellsWK_eq hc, layK_eq hl, setK_eq]
    · cases hs

/-! maps -/
def setAtV (es : List (AV × AV)) (j : Nat) (v : AV) : List (AV × AV) := match es, j with
  | [], _ => []
  | x :: r, 0 => (x.1, v) :: r
  | x :: r, j + 1 => x :: setAtV r j v

noncomputable def mapPutV (P : Program) (t : TypeId) (vs : List AV) (h : Hp) : Option Hp := match P.underlying t with
  | some (.map kt _) => match vs with
    | .mp id :: key :: v :: _ => if (keyC P 10 kt).run key = true then (match mapOf h id with
      | some es => match findV (eqV P 20 kt) key es 0 with
        | some (some (j, _)) => match es[j]? with
          | some x => if avEq key x.1 = true then some (PT.set (some (.mp (setAtV es j v))) id h) else none
          | none => none
        | some none => some (PT.set (some (.mp (es ++ [(key, v)]))) id h)
        | none => none
      | none => none) else none
    | _ => none
  | _ => none

theorem setAtK_eq {key v : AV} : ∀ {es : List (AV × AV)} {j : Nat} {x : AV × AV} {k : List (AV × AV) → Bool}, es[j]? = some x → avEq key x.1 = true → setAtK key es j v k = k (setAtV es j v)
  | [], j, x, k, h, _ => by simp at h
  | y :: es, 0, x, k, h, hk => by
    simp at h
    subst h
    show wK (avEq key y.1) (k ((y.1, v) :: es)) = _
    rw [wK_true hk]
    rfl
  | y :: es, j + 1, x, k, h, hk => setAtK_eq (k := fun r => k (y :: r)) (es := es) (j := j) (by simpa using h) hk

theorem mapPutC_eq {t : TypeId} {vs : List AV} {h h' : Hp} {n : Pos} {call : Caller} {c : AV → Hp → Pos → Bool} (hv : mapPutV P t vs h = some h') : (mapPutC P t).run call vs h n c = c undefA h' n := by
  unfold mapPutV at hv
  unfold mapPutC
  cases hu : P.underlying t with
  | none => rw [hu] at hv; cases hv
  | some D =>
    rw [hu] at hv
    cases D <;> (try simp only at hv) <;> try (cases hv; done)
    rename_i kt e
    rcases vs with _ | ⟨m, _ | ⟨key, _ | ⟨v, r⟩⟩⟩
    · cases hv
    · cases m <;> cases hv
    · cases m <;> cases hv
    cases m <;> (try simp only at hv) <;> try (cases hv; done)
    rename_i id
    split at hv
    · rename_i hk
      show wK ((keyC P 10 kt).run key) (mapK h id fun es =>
        findK (eqC P 20 kt) key es 0 (fun j _ => setAtK key es j v fun es' => PT.setK id (some (.mp es')) h fun h' => c undefA h' n)
          fun _ => appK es [(key, v)] fun es' => PT.setK id (some (.mp es')) h fun h' => c undefA h' n) = _
      rw [wK_true hk]
      cases hm : mapOf h id with
      | none => rw [hm] at hv; cases hv
      | some es =>
        rw [hm] at hv
        rw [mapK_eq hm]
        cases hf : findV (eqV P 20 kt) key es 0 with
        | none => simp only [hf] at hv; cases hv
        | some q =>
          simp only [hf] at hv
          rw [findK_eq (eqC_eq P 20 kt) hf]
          cases q with
          | none =>
            injection hv with hv
            subst hv
            show appK es [(key, v)] (fun es' => PT.setK id (some (.mp es')) h fun h' => c undefA h' n) = _
            rw [appK_eq, setK_eq]
          | some q =>
            obtain ⟨j, u⟩ := q
            simp only at hv
            cases hj : es[j]? with
            | none => rw [hj] at hv; cases hv
            | some x =>
              rw [hj] at hv
              simp only at hv
              split at hv
              · rename_i hx
                injection hv with hv
                subst hv
                show setAtK key es j v (fun es' => PT.setK id (some (.mp es')) h fun h' => c undefA h' n) = _
                rw [setAtK_eq hj hx, setK_eq]
              · cases hv
    · cases hv

/-! append -/
def bytesA (l : List Nat) : List AV := l.map fun (n : Nat) => .i .u8 (n : Int)

def srcV (h : Hp) (esz : Nat) (x : AV) : Option (Nat × List AV) := match x with
  | .s l => if esz = 1 then some (l.length, bytesA l) else none
  | .nilsl => some (0, [])
  | .sl id off n _ e => if e = esz then (match n * esz with
    | 0 => some (n, [])
    | _ + 1 => match cellsOf h id with
      | some (_, l) => if off + n * esz ≤ l.length then some (n, (l.drop off).take (n * esz)) else none
      | none => none) else none
  | _ => none

theorem bytesUp_eq : ∀ {l : List Nat} {k : List AV → Bool}, srcK.bytesUp l k = k (bytesA l)
  | [], k => rfl
  | n :: l, k => bytesUp_eq (l := l) (k := fun r => k (.i .u8 (.ofNat n) :: r))

theorem srcK_eq {h : Hp} {esz m : Nat} {x : AV} {xs : List AV} {k : Nat → List AV → Bool} (hv : srcV h esz x = some (m, xs)) : srcK h esz x k = k m xs := by
  cases x <;> simp only [srcV] at hv <;> try (cases hv; done)
  · split at hv
    · rename_i l hs
      injection hv with hv
      injection hv with h1 h2
      subst h1 h2
      show wK (Nat.beq esz 1) (fNat (lenN l) fun n => srcK.bytesUp l fun cs => k n cs) = _
      rw [wK_true (nbeq_true hs), fNat_eq, lenN_eq, bytesUp_eq]
    · cases hv
  · injection hv with hv
    injection hv with h1 h2
    subst h1 h2
    rfl
  · rename_i id off n cap e
    split at hv
    · rename_i he
      show wK (Nat.beq e esz) (fNat (n * esz) fun m => Nat.rec (motive := fun _ => Bool) (k n []) (fun m' _ => cellsK h id fun _ l => cutK l off (Nat.succ m') fun cs => k n cs) m) = _
      rw [wK_true (nbeq_true he), fNat_eq]
      cases hm : n * esz with
      | zero =>
        rw [hm] at hv
        injection hv with hv
        injection hv with h1 h2
        subst h1 h2
        rfl
      | succ m' =>
        rw [hm] at hv
        simp only at hv ⊢
        cases hc : cellsOf h id with
        | none => rw [hc] at hv; cases hv
        | some q =>
          obtain ⟨e', l⟩ := q
          rw [hc] at hv
          simp only at hv
          split at hv
          · rename_i hl
            injection hv with hv
            injection hv with h1 h2
            subst h1 h2
            rw [cellsK_eq hc]
            exact cutK_eq hl
          · cases hv
    · cases hv

/-- the element's type, its cells, its bytes -/
noncomputable def appT (P : Program) (ts : Array TypeId) : Option (TypeId × Nat × Nat) := match ts[0]?, ts[1]? with
  | some t, some u => match elemT P t, P.underlying u with
    | some e, some ud => match szT P e, bytesT P e, appendOk P e ud with
      | some (sz + 1), some by_, true => some (e, sz + 1, by_)
      | _, _, _ => none
    | _, _ => none
  | _, _ => none

def grows (cap : Option Nat) (need : Nat) : Bool := match cap with
  | none => true
  | some q => Nat.ble need q

/-- append: to a slice, behind it, in a heap -/
def appendV (e : TypeId) (sz by_ : Nat) (s : AV) (m : Nat) (xs : List AV) (h : Hp) (n : Pos) : Option (AV × Hp × Pos) := match m, s with
  | 0, .nilsl => some (.nilsl, h, n)
  | 0, .sl id off k cap esz => if esz = sz then some (.sl id off k cap esz, h, n) else none
  | m' + 1, .nilsl => if (m' + 1) * (by_ + 1) ≤ 1000000 then some (.sl n 0 (m' + 1) none sz, PT.set (some (.cells e xs)) n h, n.nxt) else none
  | m' + 1, .sl id off k cap esz => if esz = sz ∧ off % sz = 0 ∧ (k + (m' + 1)) * (by_ + 1) ≤ 1000000 then (match cellsOf h id with
    | some (e', l) => if e' = e ∧ off + k * sz ≤ l.length then (match grows cap (k + (m' + 1)) with
      | true => match cellsWOf h id with
        | some _ => some (.sl n 0 (k + (m' + 1)) none sz, PT.set (some (.cells e ((l.drop off).take (k * sz) ++ xs))) n (PT.set none id h), n.nxt)
        | none => none
      | false => some (.sl n 0 (k + (m' + 1)) none sz, PT.set (some (.cells e ((l.drop off).take (k * sz) ++ xs))) n h, n.nxt)) else none
    | none => none) else none
  | _, _ => none

theorem addK_eq {h : Hp} {n : Pos} {b : ABlk} {k : Pos → Hp → Pos → Bool} : addK h n b k = k n (PT.set (some b) n h) n.nxt := by
  unfold addK
  rw [setK_eq, succK_eq]

theorem appendC_eq {ts : Array TypeId} {e : TypeId} {sz by_ m : Nat} {s x : AV} {r xs : List AV} {h h' : Hp} {n n' : Pos} {v : AV} {call : Caller} {c : AV → Hp → Pos → Bool} (ht : appT P ts = some (e, sz, by_)) (hx : srcV h sz x = some (m, xs))
    (hv : appendV e sz by_ s m xs h n = some (v, h', n')) : (appendC P ts).run call (s :: x :: r) h n c = c v h' n' := by
  unfold appT at ht
  unfold appendC
  cases h0 : ts[0]? with
  | none => rw [h0] at ht; cases ht
  | some t =>
    cases h1 : ts[1]? with
    | none => rw [h0, h1] at ht; cases ht
    | some u =>
      rw [h0, h1] at ht
      simp only at ht ⊢
      cases h2 : elemT P t with
      | none => rw [h2] at ht; cases ht
      | some e0 =>
        cases h3 : P.underlying u with
        | none => rw [h2, h3] at ht; cases ht
        | some ud =>
          rw [h2, h3] at ht
          simp only at ht ⊢
          cases h4 : szT P e0 with
          | none => rw [h4] at ht; cases ht
          | some z =>
            cases z with
            | zero => rw [h4] at ht; cases ht
            | succ z =>
              cases h5 : bytesT P e0 with
              | none => rw [h4, h5] at ht; cases ht
              | some by0 =>
                cases h6 : appendOk P e0 ud with
                | false => rw [h4, h5, h6] at ht; cases ht
                | true =>
                  rw [h4, h5, h6] at ht
                  injection ht with ht
                  injection ht with q1 q2
                  injection q2 with q2 q3
                  subst q1 q2 q3
                  show srcK h (z + 1) x (fun m xs =>
                    Nat.rec (motive := fun _ => Bool)
                      (asSl s (c s h n) fun _ _ _ _ esz => wK (Nat.beq esz (z + 1)) (c s h n))
                      (fun m' _ => asSl s
                        (wK (Nat.ble (Nat.succ m' * (by0 + 1)) 1000000) (addK h n (.cells e0 xs) fun id h' n' => c (.sl id 0 (Nat.succ m') none (z + 1)) h' n'))
                        fun id off k cap esz => wK (Nat.beq esz (z + 1)) (fNat (k + Nat.succ m') fun need => wK (Nat.beq (off % (z + 1)) 0) <| wK (Nat.ble (need * (by0 + 1)) 1000000)
                          (cellsK h id fun e' l => wK (Nat.beq e' e0) (cutK l off (k * (z + 1)) fun old => appK old xs fun cs =>
                            bK (Option.rec (motive := fun _ => Bool) true (fun q => Nat.ble need q) cap)
                              (cellsWK h id fun _ _ => PT.setK id none h fun h1 => addK h1 n (.cells e0 cs) fun id' h' n' => c (.sl id' 0 need none (z + 1)) h' n')
                              (addK h n (.cells e0 cs) fun id' h' n' => c (.sl id' 0 need none (z + 1)) h' n'))))) m) = _
                  rw [srcK_eq hx]
                  cases m with
                  | zero =>
                    cases s <;> simp only [appendV] at hv <;> try (cases hv; done)
                    · injection hv with hv; injection hv with a1 a2; injection a2 with a2 a3; subst a1 a2 a3; rfl
                    · split at hv
                      · rename_i hz
                        injection hv with hv; injection hv with a1 a2; injection a2 with a2 a3; subst a1 a2 a3
                        show wK (Nat.beq _ (z + 1)) (c _ h n) = _
                        rw [wK_true (nbeq_true hz)]
                      · cases hv
                  | succ m' =>
                    cases s <;> simp only [appendV] at hv <;> try (cases hv; done)
                    · split at hv
                      · rename_i hb
                        injection hv with hv; injection hv with a1 a2; injection a2 with a2 a3; subst a1 a2 a3
                        show wK (Nat.ble (Nat.succ m' * (by0 + 1)) 1000000) (addK h n (.cells e0 xs) fun id h' n' => c (.sl id 0 (Nat.succ m') none (z + 1)) h' n') = _
                        rw [wK_true (nble_true hb), addK_eq]
                      · cases hv
                    · rename_i id off k cap esz
                      split at hv
                      · rename_i hb
                        cases hc : cellsOf h id with
                        | none => rw [hc] at hv; cases hv
                        | some q =>
                          obtain ⟨e', l⟩ := q
                          rw [hc] at hv
                          simp only at hv
                          split at hv
                          · rename_i hl
                            show wK (Nat.beq esz (z + 1)) (fNat (k + Nat.succ m') fun need => wK (Nat.beq (off % (z + 1)) 0) <| wK (Nat.ble (need * (by0 + 1)) 1000000)
                              (cellsK h id fun e' l => wK (Nat.beq e' e0) (cutK l off (k * (z + 1)) fun old => appK old xs fun cs =>
                                bK (Option.rec (motive := fun _ => Bool) true (fun q => Nat.ble need q) cap)
                                  (cellsWK h id fun _ _ => PT.setK id none h fun h1 => addK h1 n (.cells e0 cs) fun id' h' n' => c (.sl id' 0 need none (z + 1)) h' n')
                                  (addK h n (.cells e0 cs) fun id' h' n' => c (.sl id' 0 need none (z + 1)) h' n')))) = _
                            rw [wK_true (nbeq_true hb.1), fNat_eq, wK_true (nbeq_true hb.2.1), wK_true (nble_true hb.2.2), cellsK_eq hc, wK_true (nbeq_true hl.1), cutK_eq hl.2, appK_eq]
                            have hg : (Option.rec (motive := fun _ => Bool) true (fun q => Nat.ble (k + m'.succ) q) cap) = grows cap (k + (m' + 1)) := by cases cap <;> rfl
                            rw [hg]
                            cases hgr : grows cap (k + (m' + 1)) with
                            | true =>
                              rw [hgr] at hv
                              simp only at hv
                              cases hw : cellsWOf h id with
                              | none => rw [hw] at hv; cases hv
                              | some q =>
                                obtain ⟨e2, l2⟩ := q
                                rw [hw] at hv
                                injection hv with hv; injection hv with a1 a2; injection a2 with a2 a3; subst a1 a2 a3
                                rw [bK_t, cellsWK_eq hw, setK_eq, addK_eq]
                            | false =>
                              rw [hgr] at hv
                              injection hv with hv; injection hv with a1 a2; injection a2 with a2 a3; subst a1 a2 a3
                              rw [bK_f, addK_eq]
                          · cases hv
                      · cases hv

end
end Go.Am
/- What a walk asks at each step (2): operations, rows of them, code. -/
namespace Go.Am
open Go

section
variable {P : Program} {prim : FuncId → Option Prim}

/-- what an operation that acts asks -/
noncomputable def loudW (P : Program) (prim : FuncId → Option Prim) (op : Op) (vs : List AV) (h : Hp) (n : Pos) (K : AV → Hp → Pos → Prop) : Prop := match op with
  | .store t _ _ => match szT P t, vs with
    | some m, .ptr id off :: x :: _ => match cellsA x with
      | some xs => xs.length = m ∧ ∃ h', storeV h id off xs = some h' ∧ K undefA h' n
      | none => False
    | _, _ => False
  | .mapUpdate t _ _ _ => ∃ h', mapPutV P t vs h = some h' ∧ K undefA h' n
  | .insert t _ _ _ => ∃ h', mapPutV P t vs h = some h' ∧ K undefA h' n
  | .call ⟨.value _, _, _⟩ => match vs with
    | .fn (.func g) first cap :: args => AC P prim g (first ++ args ++ cap) h n K
    | _ => False
  | .call ⟨.builtin .append, _, ts⟩ => match vs with
    | s :: x :: _ => match appT P ts with
      | some (e, sz, by_) => match srcV h sz x with
        | some (m, xs) => match appendV e sz by_ s m xs h n with
          | some (v, h', n') => K v h' n'
          | none => False
        | none => False
      | none => False
    | _ => False
  | _ => False

theorem loudW_lead {op : Op} {vs : List AV} {h : Hp} {n : Pos} {K : AV → Hp → Pos → Prop} (hw : loudW P prim op vs h n K) : Lead (fun d k => (loudC P op).run (callD P prim d) vs h n k) K := by
  cases op <;> simp only [loudW] at hw <;> try (cases hw; done)
  case store t p x =>
    cases hz : szT P t with
    | none => rw [hz] at hw; cases hw
    | some m =>
      rw [hz] at hw
      rcases vs with _ | ⟨a, _ | ⟨y, r⟩⟩
      · cases hw
      · cases a <;> cases hw
      cases a <;> (try simp only at hw) <;> try (cases hw; done)
      rename_i id off
      cases hy : cellsA y with
      | none => rw [hy] at hw; cases hw
      | some xs =>
        rw [hy] at hw
        obtain ⟨hm, h', hs, hk⟩ := hw
        refine Lead.of_eq (fun d k => ?_) hk
        simp only [loudC, hz]
        show cellsV y (fun xs => wK (Nat.beq (lenN xs) m) (storeK h id off xs fun h' => k undefA h' n)) = _
        rw [cellsV_eq hy, wK_true (nbeq_true (by rw [lenN_eq]; exact hm)), storeK_eq hs]
  case mapUpdate t m x y =>
    obtain ⟨h', hs, hk⟩ := hw
    exact Lead.of_eq (fun d k => mapPutC_eq hs) hk
  case insert t m x y =>
    obtain ⟨h', hs, hk⟩ := hw
    exact Lead.of_eq (fun d k => mapPutC_eq hs) hk
  case call cl =>
    obtain ⟨callee, args, ts⟩ := cl
    cases callee with
    | builtin b =>
      cases b <;> (try simp only at hw) <;> try (cases hw; done)
      rcases vs with _ | ⟨s, _ | ⟨x, r⟩⟩
      · cases hw
      · cases hw
      simp only at hw
      cases ht : appT P ts with
      | none => rw [ht] at hw; cases hw
      | some q =>
        obtain ⟨e, sz, by_⟩ := q
        rw [ht] at hw
        simp only at hw
        cases hx : srcV h sz x with
        | none => rw [hx] at hw; cases hw
        | some q =>
          obtain ⟨m, xs⟩ := q
          rw [hx] at hw
          simp only at hw
          cases hv : appendV e sz by_ s m xs h n with
          | none => rw [hv] at hw; cases hw
          | some q =>
            obtain ⟨v, h', n'⟩ := q
            rw [hv] at hw
            exact Lead.of_eq (fun d k => appendC_eq ht hx hv) hw
    | value f =>
      cases vs with
      | nil => cases hw
      | cons g args =>
        cases g <;> (try simp only at hw) <;> try (cases hw; done)
        rename_i f first cap
        cases f <;> (try simp only at hw) <;> try (cases hw; done)
        rename_i g
        obtain ⟨v, h', n', ⟨d0, hd⟩, hk⟩ := hw
        refine ⟨v, h', n', ⟨d0, fun d hdd k => ?_⟩, hk⟩
        show appK first args (fun as => appK as cap fun as' => callD P prim d g as' h n k) = _
        rw [appK_eq, appK_eq]
        exact hd d hdd k
    | invoke r m => cases hw

theorem loudW_mono {op : Op} {vs : List AV} {h : Hp} {n : Pos} {K K' : AV → Hp → Pos → Prop} (hw : loudW P prim op vs h n K) (hk : ∀ v h n, K v h n → K' v h n) : loudW P prim op vs h n K' := by
  unfold loudW at *
  split at hw
  · split at hw
    · split at hw
      · obtain ⟨h1, h', h2, h3⟩ := hw
        exact ⟨h1, h', h2, hk _ _ _ h3⟩
      · exact hw
    · exact hw
  · obtain ⟨h', h2, h3⟩ := hw; exact ⟨h', h2, hk _ _ _ h3⟩
  · obtain ⟨h', h2, h3⟩ := hw; exact ⟨h', h2, hk _ _ _ h3⟩
  · split at hw
    · exact AC.mono hw hk
    · exact hw
  · split at hw
    · split at hw
      · split at hw
        · split at hw
          · exact hk _ _ _ hw
          · exact hw
        · exact hw
      · exact hw
    · exact hw
  · exact hw

theorem okC_pure {op : Op} {f : PureC} (h : okC P op = .pure f) : f = pureC P op := by
  cases op <;> simp only [okC] at h <;> try (first | (cases h; done) | (injection h with h; exact h.symm))
  · split at h <;> first | (cases h; done) | (injection h with h; exact h.symm)
  · rename_i cl
    obtain ⟨callee, args, ts⟩ := cl
    cases callee with
    | builtin b =>
      cases b <;> (try simp only at h) <;> try (first | (cases h; done) | (injection h with h; exact h.symm))
      split at h
      · split at h
        · cases h
        · injection h with h; exact h.symm
      · rename_i hn
        injection h with h
        subst h
        simp only [pureC, hn]
    | value f => cases h
    | invoke r m => cases h
theorem okC_read {op : Op} {f : ReadC} (h : okC P op = .read f) : f = readC P op := by
  cases op <;> simp only [okC] at h <;> try (first | (cases h; done) | (injection h with h; exact h.symm))
  · split at h <;> first | (cases h; done) | (injection h with h; exact h.symm)
  · rename_i cl
    obtain ⟨callee, args, ts⟩ := cl
    cases callee with
    | builtin b =>
      cases b <;> (try simp only at h) <;> try (first | (cases h; done) | (injection h with h; exact h.symm))
      split at h
      · split at h
        · injection h with h; exact h.symm
        · cases h
      · cases h
    | value f => cases h
    | invoke r m => cases h
theorem okC_alloc {op : Op} {f : AllocC} (h : okC P op = .alloc f) : f = allocC P op := by
  cases op <;> simp only [okC] at h <;> try (first | (cases h; done) | (injection h with h; exact h.symm))
  · split at h <;> cases h
  · rename_i cl
    obtain ⟨callee, args, ts⟩ := cl
    cases callee with
    | builtin b =>
      cases b <;> (try simp only at h) <;> try (cases h; done)
      split at h
      · split at h <;> cases h
      · cases h
    | value f => cases h
    | invoke r m => cases h
theorem okC_loud {op : Op} {f : LoudC} (h : okC P op = .loud f) : f = loudC P op := by
  cases op <;> simp only [okC] at h <;> try (first | (cases h; done) | (injection h with h; exact h.symm))
  · split at h <;> cases h
  · rename_i cl
    obtain ⟨callee, args, ts⟩ := cl
    cases callee with
    | builtin b =>
      cases b <;> (try simp only at h) <;> try (first | (cases h; done) | (injection h with h; exact h.symm))
      split at h
      · split at h <;> cases h
      · cases h
    | value f => injection h with h; exact h.symm
    | invoke r m => injection h with h; exact h.symm

/-! operations -/
noncomputable def wpO (P : Program) (prim : FuncId → Option Prim) (nt : Nat) (o : Oper) (K : Ev → Hp → Pos → Prop) (l : Ev) (h : Hp) (n : Pos) : Prop :=
  match evOs o.op.operands.toList l with
  | none => False
  | some vs => match okC P o.op with
    | .pure _ => match pureV P o.op vs with
      | some v => putE nt o.dst v l fun l' => K l' h n
      | none => False
    | .read _ => match readV P o.op vs h with
      | some v => putE nt o.dst v l fun l' => K l' h n
      | none => False
    | .alloc _ => match allocV P o.op vs with
      | some (B, mk) => putE nt o.dst (mk n) l fun l' => K l' (PT.set (some B) n h) n.nxt
      | none => False
    | .loud _ => loudW P prim o.op vs h n fun v h' n' => putE nt o.dst v l fun l' => K l' h' n'

/-- what a row of steps comes to -/
def LeadS (nt : Nat) (X : Nat → (Env → Hp → Pos → Bool) → Bool) (K : Ev → Hp → Pos → Prop) : Prop := ∃ l e h n, Sub nt l e ∧ (∃ d0, ∀ d, d0 ≤ d → ∀ k, X d k = k e h n) ∧ K l h n

theorem putE_mono {nt : Nat} {d : Option Nat} {v : AV} {l : Ev} {K K' : Ev → Prop} (h : putE nt d v l K) (hk : ∀ l, K l → K' l) : putE nt d v l K' := by
  cases d with
  | none => exact hk _ h
  | some t => exact ⟨h.1, hk _ h.2⟩

theorem wpO_mono {nt : Nat} {o : Oper} {K K' : Ev → Hp → Pos → Prop} {l : Ev} {h : Hp} {n : Pos} (hw : wpO P prim nt o K l h n) (hk : ∀ l h n, K l h n → K' l h n) : wpO P prim nt o K' l h n := by
  unfold wpO at *
  split at hw
  · exact hw
  · split at hw
    · split at hw
      · exact putE_mono hw fun l => hk _ _ _
      · exact hw
    · split at hw
      · exact putE_mono hw fun l => hk _ _ _
      · exact hw
    · split at hw
      · exact putE_mono hw fun l => hk _ _ _
      · exact hw
    · exact loudW_mono hw fun v h n hh => putE_mono hh fun l => hk _ _ _

theorem wpO_lead {nt : Nat} (hnt : nt ≤ 100000) {o : Oper} {K : Ev → Hp → Pos → Prop} {l : Ev} {h : Hp} {n : Pos} {e : Env} (hs : Sub nt l e) (hw : wpO P prim nt o K l h n) :
    LeadS nt (fun d k => (opC P nt o).run (callD P prim d) e h n k) K := by
  unfold wpO at hw
  cases hv : evOs o.op.operands.toList l with
  | none => rw [hv] at hw; cases hw
  | some vs =>
    rw [hv] at hw
    simp only at hw
    unfold opC
    cases ho : okC P o.op with
    | pure f =>
      rw [ho] at hw
      simp only at hw
      have hf := okC_pure ho
      cases hp : pureV P o.op vs with
      | none => rw [hp] at hw; cases hw
      | some v =>
        rw [hp] at hw
        obtain ⟨l', e', h1, h2, h3⟩ := putC_eq hnt hs hw
        refine ⟨l', e', h, n, h1, ⟨0, fun d _ k => ?_⟩, h3⟩
        show (opndsC nt o.op.operands.toList).run e (fun vs => f.run vs fun v => (putC nt o.dst).run e v fun e' => k e' h n) = _
        rw [opndsC_eq hs hv, hf, pureC_eq hp, h2]
    | read f =>
      rw [ho] at hw
      simp only at hw
      have hf := okC_read ho
      cases hp : readV P o.op vs h with
      | none => rw [hp] at hw; cases hw
      | some v =>
        rw [hp] at hw
        obtain ⟨l', e', h1, h2, h3⟩ := putC_eq hnt hs hw
        refine ⟨l', e', h, n, h1, ⟨0, fun d _ k => ?_⟩, h3⟩
        show (opndsC nt o.op.operands.toList).run e (fun vs => f.run vs h fun v => (putC nt o.dst).run e v fun e' => k e' h n) = _
        rw [opndsC_eq hs hv, hf, readC_eq hp, h2]
    | alloc f =>
      rw [ho] at hw
      simp only at hw
      have hf := okC_alloc ho
      cases hp : allocV P o.op vs with
      | none => rw [hp] at hw; cases hw
      | some q =>
        obtain ⟨B, mk⟩ := q
        rw [hp] at hw
        obtain ⟨l', e', h1, h2, h3⟩ := putC_eq hnt hs hw
        refine ⟨l', e', _, _, h1, ⟨0, fun d _ k => ?_⟩, h3⟩
        show (opndsC nt o.op.operands.toList).run e (fun vs => f.run vs fun b mk => addK h n b fun id h' n' => (putC nt o.dst).run e (mk id) fun e' => k e' h' n') = _
        rw [opndsC_eq hs hv, hf, allocC_eq hp, addK_eq, h2]
    | loud f =>
      rw [ho] at hw
      simp only at hw
      have hf := okC_loud ho
      obtain ⟨v, h', n', ⟨d0, hd⟩, hk⟩ := loudW_lead hw
      obtain ⟨l', e', h1, h2, h3⟩ := putC_eq hnt hs hk
      refine ⟨l', e', h', n', h1, ⟨d0, fun d hdd k => ?_⟩, h3⟩
      show (opndsC nt o.op.operands.toList).run e (fun vs => f.run (callD P prim d) vs h n fun v h' n' => (putC nt o.dst).run e v fun e' => k e' h' n') = _
      rw [opndsC_eq hs hv, hf]
      have := hd d hdd fun v h' n' => (putC nt o.dst).run e v fun e' => k e' h' n'
      exact this.trans (h2 _)

def boolOf : AV → Option Bool
  | .b x => some x
  | _ => none

/-- a step, if it is wanted -/
noncomputable def wpStep (P : Program) (prim : FuncId → Option Prim) (nt : Nat) (ops : Array Oper) (o : Oper) (K : Ev → Hp → Pos → Prop) (l : Ev) (h : Hp) (n : Pos) : Prop := match o.guard with
  | none => wpO P prim nt o K l h n
  | some (j, want) => match (ops[j]?).bind (·.dst) with
    | none => False
    | some t => match lk t l with
      | none => False
      | some v => if boolOf v = some want then wpO P prim nt o K l h n else putE nt o.dst undefA l fun l' => K l' h n

theorem wantC_eq {nt : Nat} {ops : Array Oper} {o : Oper} {j t : Nat} {want : Bool} {l : Ev} {e : Env} {v : AV} (hs : Sub nt l e) (hg : o.guard = some (j, want)) (ht : (ops[j]?).bind (·.dst) = some t) (hl : lk t l = some v) (y m : Bool) :
    (wantC nt ops o).run e y m = if boolOf v = some want then y else m := by
  obtain ⟨h1, h2⟩ := hs t v hl
  unfold wantC
  rw [hg]
  cases hj : ops[j]? with
  | none => rw [hj] at ht; cases ht
  | some g =>
    rw [hj] at ht
    simp only [Option.bind_some] at ht
    simp only [hj, ht, slotOf]
    rw [nble_true (Nat.succ_le_of_lt h1)]
    simp only
    rw [getK_eq h2]
    cases v <;> (try (show m = _; rw [if_neg (by simp [boolOf])]))
    rename_i x
    show bK (bK x want (notB want)) y m = _
    cases x <;> cases want <;> simp [boolOf, bK, notB]

theorem wpStep_mono {nt : Nat} {ops : Array Oper} {o : Oper} {K K' : Ev → Hp → Pos → Prop} {l : Ev} {h : Hp} {n : Pos} (hw : wpStep P prim nt ops o K l h n) (hk : ∀ l h n, K l h n → K' l h n) : wpStep P prim nt ops o K' l h n := by
  unfold wpStep at *
  split at hw
  · exact wpO_mono hw hk
  · split at hw
    · exact hw
    · split at hw
      · exact hw
      · split at hw
        · rename_i hb; rw [if_pos hb]; exact wpO_mono hw hk
        · rename_i hb; rw [if_neg hb]; exact putE_mono hw fun l => hk _ _ _

theorem wpStep_lead {nt : Nat} (hnt : nt ≤ 100000) {ops : Array Oper} {o : Oper} {K : Ev → Hp → Pos → Prop} {l : Ev} {h : Hp} {n : Pos} {e : Env} (hs : Sub nt l e) (hw : wpStep P prim nt ops o K l h n) :
    LeadS nt (fun d k => (stepC P nt ops o).run (callD P prim d) e h n k) K := by
  unfold wpStep at hw
  unfold stepC
  cases hg : o.guard with
  | none => rw [hg] at hw; exact wpO_lead hnt hs hw
  | some g =>
    obtain ⟨j, want⟩ := g
    rw [hg] at hw
    simp only at hw
    split at hw
    · cases hw
    · rename_i t ht
      split at hw
      · cases hw
      · rename_i v hl
        split at hw
        · rename_i hb
          obtain ⟨l', e', h', n', h1, ⟨d0, hd⟩, h3⟩ := wpO_lead hnt hs hw
          refine ⟨l', e', h', n', h1, ⟨d0, fun d hdd k => ?_⟩, h3⟩
          show (wantC nt ops o).run e ((opC P nt o).run (callD P prim d) e h n k) _ = _
          rw [wantC_eq hs hg ht hl, if_pos hb]
          exact hd d hdd k
        · rename_i hb
          obtain ⟨l', e', h1, h2, h3⟩ := putC_eq hnt hs hw
          refine ⟨l', e', h, n, h1, ⟨0, fun d _ k => ?_⟩, h3⟩
          show (wantC nt ops o).run e _ ((putC nt o.dst).run e undefA fun e' => k e' h n) = _
          rw [wantC_eq hs hg ht hl, if_neg hb, h2]

noncomputable def wpS (P : Program) (prim : FuncId → Option Prim) (nt : Nat) (ops : Array Oper) (Q : Ev → Hp → Pos → Prop) : List Oper → Ev → Hp → Pos → Prop
  | [], l, h, n => Q l h n
  | o :: r, l, h, n => wpStep P prim nt ops o (wpS P prim nt ops Q r) l h n

theorem wpS_mono {nt : Nat} {ops : Array Oper} {Q Q' : Ev → Hp → Pos → Prop} (hq : ∀ l h n, Q l h n → Q' l h n) : ∀ {L : List Oper} {l : Ev} {h : Hp} {n : Pos}, wpS P prim nt ops Q L l h n → wpS P prim nt ops Q' L l h n
  | [], _, _, _, hw => hq _ _ _ hw
  | _ :: _, _, _, _, hw => wpStep_mono hw fun _ _ _ => wpS_mono hq

theorem wpS_lead {nt : Nat} (hnt : nt ≤ 100000) {ops : Array Oper} {Q : Ev → Hp → Pos → Prop} : ∀ {L : List Oper} {l : Ev} {h : Hp} {n : Pos} {e : Env}, Sub nt l e → wpS P prim nt ops Q L l h n →
    LeadS nt (fun d k => (seqC P nt ops L).run (callD P prim d) e h n k) Q
  | [], l, h, n, e, hs, hw => ⟨l, e, h, n, hs, ⟨0, fun _ _ _ => rfl⟩, hw⟩
  | o :: L, l, h, n, e, hs, hw => by
    obtain ⟨l1, e1, h1, n1, s1, ⟨d1, q1⟩, k1⟩ := wpStep_lead hnt hs hw
    obtain ⟨l2, e2, h2, n2, s2, ⟨d2, q2⟩, k2⟩ := wpS_lead hnt (e := e1) s1 k1
    refine ⟨l2, e2, h2, n2, s2, ⟨max d1 d2, fun d hd k => ?_⟩, k2⟩
    show (stepC P nt ops o).run (callD P prim d) e h n (fun e' h' n' => (seqC P nt ops L).run (callD P prim d) e' h' n' k) = _
    have a := q1 d (by omega) (fun e' h' n' => (seqC P nt ops L).run (callD P prim d) e' h' n' k)
    have b := q2 d (by omega) k
    exact a.trans b

end
end Go.Am
