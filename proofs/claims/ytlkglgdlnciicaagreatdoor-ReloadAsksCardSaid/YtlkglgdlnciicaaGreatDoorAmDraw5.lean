/- Regions that draw their order: what holds whatever was listed. -/
import Derived.Test.YtlkglgdlnciicaaGreatDoorAmDraw3
set_option linter.all false
namespace Go.Am
open Go

theorem edges_of : ∀ (os : List Oper) (j : Nat), edgesOk os j = true → ∀ i o, os[i]? = some o → ∀ e ∈ o.after.toList, Region.binds .any e = true → e.on < j + i
  | [], _, _, i, o, h, _, _, _ => by simp at h
  | x :: os, j, hk, i, o, h, e, he, hb => by
    simp only [edgesOk, Bool.and_eq_true, List.all_eq_true] at hk
    cases i with
    | zero =>
      simp at h
      subst h
      have := hk.1 e he
      rw [hb] at this
      have := nble_of this
      omega
    | succ i =>
      have := edges_of os (j + 1) hk.2 i o (by simpa using h) e he hb
      omega

theorem advK_of : ∀ (c : Nat) (k : Pos → Bool) (n : Pos), advK k c n = true → ∃ n', k n' = true ∧ n'.num = n.num + c
  | 0, k, n, h => ⟨n, h, rfl⟩
  | c + 1, k, n, h => by
    have h' : n.succK (advK k c) = true := h
    obtain ⟨n', h1, h2⟩ := advK_of c k _ (succK_of h')
    exact ⟨n', h1, by rw [h2, Pos.num_nxt]; omega⟩

theorem staysIn_of {l : Look} : ∀ {hs : List Hp}, staysIn l hs = true → ∀ (i : Nat) (h : Hp), hs[i]? = some h → l.f.run l.vs h (fun v => avEq l.v v) = true
  | [], _, i, h, e => by simp at e
  | x :: hs, hk, i, h, e => by
    have hk' : wK (l.f.run l.vs x fun v => avEq l.v v) (staysIn l hs) = true := hk
    obtain ⟨h1, h2⟩ := wK_of hk'
    cases i with
    | zero => simp at e; subst e; exact h1
    | succ i => exact staysIn_of h2 i h (by simpa using e)

theorem looksStay_of {hs : List Hp} : ∀ {ls : List Look}, looksStay hs ls = true → ∀ l ∈ ls, ∀ (i : Nat) (h : Hp), l.lo ≤ i → i ≤ l.hi → hs[i]? = some h → l.f.run l.vs h (fun v => avEq l.v v) = true
  | [], _, l, hl => by cases hl
  | x :: ls, hk, l, hl => by
    have hk' : wK (staysIn x ((hs.drop x.lo).take (x.hi + 1 - x.lo))) (looksStay hs ls) = true := hk
    obtain ⟨h1, h2⟩ := wK_of hk'
    rcases List.mem_cons.1 hl with rfl | hl
    · intro i h hlo hhi hi
      refine staysIn_of h1 (i - l.lo) h ?_
      rw [List.getElem?_take, if_pos (by omega), List.getElem?_drop, show l.lo + (i - l.lo) = i from by omega]
      exact hi
    · exact looksStay_of h2 l hl

section
variable {P : Program}

theorem louds_length : ∀ (L : List Oper) (k : Nat), (louds P L k).length = before P L L.length
  | [], _ => rfl
  | o :: L, k => by
    simp only [louds, List.length_cons, before]
    cases (okC P o.op).isLoud <;> simp [louds_length L (k + 1), Nat.add_comm]

noncomputable def posL (ld : List Nat) : Nat → Nat
  | 0 => 0
  | m + 1 => ld.getD m 0 + 1

variable {nt : Nat} {ops : Array Oper} {st : Nat → DSt}

theorem louds_at {L : List Oper} {m x : Nat} (h : (louds P L 0)[m]? = some x) : ∃ o, L[x]? = some o ∧ (okC P o.op).isLoud = true ∧ before P L x = m ∧ x < L.length := by
  obtain ⟨j, o, h1, h2, h3, h4⟩ := louds_mem L 0 m x h
  rw [Nat.zero_add] at h1
  subst h1
  exact ⟨o, h2, h3, h4, (List.getElem?_eq_some_iff.1 h2).1⟩

theorem posL_succ {ld : List Nat} {m x : Nat} (h : ld[m]? = some x) : posL ld (m + 1) = x + 1 := by
  simp [posL, List.getD_eq_getElem?_getD, h]

theorem before_pos {L : List Oper} {m : Nat} (hm : m ≤ (louds P L 0).length) : before P L (posL (louds P L 0) m) = m ∧ posL (louds P L 0) m ≤ L.length := by
  cases m with
  | zero => exact ⟨by cases L <;> rfl, Nat.zero_le _⟩
  | succ m =>
    have hx : (louds P L 0)[m]? = some (louds P L 0)[m] := List.getElem?_eq_getElem hm
    obtain ⟨o, h1, h2, h3, h4⟩ := louds_at hx
    rw [posL_succ hx]
    refine ⟨?_, h4⟩
    rw [before_succ _ _ o h1, h2, h3]

structure Ctx (P : Program) (nt : Nat) (ops : Array Oper) (st : Nat → DSt) : Prop where
  hnt : nt ≤ 100000
  run : TextRun P nt ops (aheads ops.toList) (louds P ops.toList 0) st
  single : Single ops
  reads : ∀ j o, ops[j]? = some o → ∀ d, Reads ops o d → ReadGood ops (aheads ops.toList) j d
  chain : loudsChain (aheads ops.toList) (louds P ops.toList 0) = true
  looks : ∀ l ∈ (st ops.size).ls, ∀ i h, l.lo ≤ i → i ≤ l.hi → (st ops.size).hs.reverse[i]? = some h → l.f.run l.vs h (fun u => avEq l.v u) = true
  fin : flushPs (st ops.size).k (st ops.size).ps = []
  k0 : (st 0).k = 0
  ps0 : (st 0).ps = []
  hs0 : (st 0).hs = [(st 0).h]
  n0 : (st 0).r.num + allocsIn P ops.toList ≤ (st 0).n.num
  edges : ∀ j o, ops[j]? = some o → ∀ e ∈ o.after.toList, Region.binds .any e = true → e.on < j

def Unfl (ld : List Nat) (st : Nat → DSt) (m i : Nat) (p : Pend) : Prop := posL ld m ≤ i ∨ p ∈ (st (posL ld m)).ps

structure Inv (P : Program) (nt : Nat) (ops : Array Oper) (st : Nat → DSt) (φ0 : Phi) (w0 : World) (a0 : Act) (S : Nat → Prop) (m : Nat) (φ : Phi) (a : Act) (w : World) : Prop where
  closed : Closed ops S
  le : m ≤ (louds P ops.toList 0).length
  ld : ∀ i x, (louds P ops.toList 0)[i]? = some x → (S x ↔ i < m)
  heap : HRel P φ (st (posL (louds P ops.toList 0) m)).h (st (posL (louds P ops.toList 0) m)).n w
  fr : Fr φ0 (st 0).h (st 0).r w0 φ (st (posL (louds P ops.toList 0) m)).h (st (posL (louds P ops.toList 0) m)).n w
  num : (st 0).n.num ≤ (st (posL (louds P ops.toList 0) m)).n.num
  size : a.tmps.size = nt
  env : EnvS φ nt ops st S a
  defers : a.defers = a0.defers
  pend : ∀ i p, i < ops.size → AllocAt (aheads ops.toList) (louds P ops.toList 0) st i p → S i → Unfl (louds P ops.toList 0) st m i p →
    BR P φ w p.id p.blk ∧ ∀ x, φ p.id = some x → w0.heap.size ≤ x.1 ∧ ∀ id y, (PT.get id (st (posL (louds P ops.toList 0) m)).h).isSome = true → φ id = some y → y.1 ≠ x.1
  apart : ∀ i j p q, i < ops.size → j < ops.size → AllocAt (aheads ops.toList) (louds P ops.toList 0) st i p → AllocAt (aheads ops.toList) (louds P ops.toList 0) st j q → S i → S j →
    Unfl (louds P ops.toList 0) st m i p → Unfl (louds P ops.toList 0) st m j q → i ≠ j → ∀ x y, φ p.id = some x → φ q.id = some y → x.1 ≠ y.1
  rest : ∀ i p, i < ops.size → AllocAt (aheads ops.toList) (louds P ops.toList 0) st i p → ¬ S i → φ p.id = none

/-- what is laid by is laid into the heap -/
theorem flush_ok {φ : Phi} {n : Pos} {w : World} {k : Nat} : ∀ (ps : List Pend) (h : Hp), HRel P φ h n w →
    (∀ p ∈ ps, p.hi ≤ k → BR P φ w p.id p.blk ∧ ∀ x, φ p.id = some x → ∀ id y, (PT.get id h).isSome = true → φ id = some y → y.1 ≠ x.1) →
    (∀ p ∈ ps, ∀ q ∈ ps, p.hi ≤ k → q.hi ≤ k → p.id ≠ q.id → ∀ x y, φ p.id = some x → φ q.id = some y → x.1 ≠ y.1) →
    HRel P φ (flushH k ps h) n w ∧ ∀ id, (PT.get id (flushH k ps h)).isSome = true → (PT.get id h).isSome = true ∨ ∃ p ∈ ps, p.hi ≤ k ∧ p.id = id
  | [], h, hr, _, _ => ⟨hr, fun id hi => .inl hi⟩
  | p :: ps, h, hr, h1, h2 => by
    obtain ⟨r1, r2⟩ := flush_ok ps h hr (fun q hq => h1 q (by simp [hq])) (fun q hq q' hq' => h2 q (by simp [hq]) q' (by simp [hq']))
    have e : flushH k (p :: ps) h = if p.hi ≤ k then PT.set (some p.blk) p.id (flushH k ps h) else flushH k ps h := by
      simp only [flushH, List.foldr_cons, Nat.ble_eq]
    rw [e]
    by_cases hk : p.hi ≤ k
    · rw [if_pos hk]
      refine ⟨r1.insert _ _ (h1 p (by simp) hk).1 fun id' x x' hne hi hx hx' => ?_, fun id hi => ?_⟩
      · rcases r2 id' hi with hin | ⟨q, hq, hqk, rfl⟩
        · exact fun hxx => (h1 p (by simp) hk).2 x hx' id' x' hin hx hxx
        · exact fun hxx => h2 q (by simp [hq]) p (by simp) hqk hk hne x' x hx hx' hxx
      · by_cases g : p.id = id
        · exact .inr ⟨p, by simp, hk, g⟩
        · rw [get_set_ne _ _ _ _ g] at hi
          rcases r2 id hi with hin | ⟨q, hq, hqk, hqi⟩
          · exact .inl hin
          · exact .inr ⟨q, by simp [hq], hqk, hqi⟩
    · rw [if_neg hk]
      refine ⟨r1, fun id hi => ?_⟩
      rcases r2 id hi with hin | ⟨q, hq, hqk, hqi⟩
      · exact .inl hin
      · exact .inr ⟨q, by simp [hq], hqk, hqi⟩

section
variable {φ0 : Phi} {w0 : World} {a0 : Act} {S : Nat → Prop} {m : Nat} {φ : Phi} {a : Act} {w : World}

theorem posL_mono {m m' : Nat} {L : List Oper} (h : m ≤ m') (hm : m' ≤ (louds P L 0).length) : posL (louds P L 0) m ≤ posL (louds P L 0) m' := by
  by_cases he : m = m'
  · subst he; exact Nat.le_refl _
  · refine Classical.byContradiction fun hn => ?_
    have h1 := before_pos (P := P) (L := L) (m := m) (by omega)
    have h2 := before_pos (P := P) (L := L) hm
    have := before_mono (P := P) L _ _ (Nat.le_of_lt (Nat.lt_of_not_le hn)) h1.2
    omega

theorem unfl_of_ps (c : Ctx P nt ops st) {i l m : Nat} {p : Pend} (hp : AllocAt (aheads ops.toList) (louds P ops.toList 0) st i p) (hl : posL (louds P ops.toList 0) m ≤ l) (hls : l ≤ ops.size) (hm : p ∈ (st l).ps) : Unfl (louds P ops.toList 0) st m i p := by
  by_cases h : posL (louds P ops.toList 0) m ≤ i
  · exact .inl h
  · exact .inr (ps_back c.run hp l _ (by omega) hl hls hm)

theorem unfl_anti (c : Ctx P nt ops st) {i m : Nat} {p : Pend} (hm : m + 1 ≤ (louds P ops.toList 0).length) (hp : AllocAt (aheads ops.toList) (louds P ops.toList 0) st i p) (h : Unfl (louds P ops.toList 0) st (m + 1) i p) : Unfl (louds P ops.toList 0) st m i p := by
  have h1 := posL_mono (P := P) (L := ops.toList) (Nat.le_succ m) hm
  rcases h with h | h
  · exact .inl (Nat.le_trans h1 h)
  · exact unfl_of_ps c hp h1 (by have := (before_pos (P := P) (L := ops.toList) hm).2; simpa using this) h

theorem Inv.loud_at (I : Inv P nt ops st φ0 w0 a0 S m φ a w) (c : Ctx P nt ops st) {j : Nat} {o : Oper} (ho : ops[j]? = some o) (hj : ¬ S j) (hA : Ahead S o) (hl : (okC P o.op).isLoud = true) :
    (louds P ops.toList 0)[m]? = some j ∧ before P ops.toList j = m := by
  have ho' : ops.toList[j]? = some o := by simpa using ho
  have hg := louds_get (P := P) ops.toList 0 j o ho' hl
  rw [Nat.zero_add] at hg
  have hge : m ≤ before P ops.toList j := Nat.le_of_not_lt fun h => hj ((I.ld _ _ hg).2 h)
  have heq : before P ops.toList j = m := by
    refine Classical.byContradiction fun hne => ?_
    obtain ⟨i1, hi1⟩ : ∃ i1, before P ops.toList j = i1 + 1 := ⟨before P ops.toList j - 1, by omega⟩
    rw [hi1] at hg
    have hlt : i1 < (louds P ops.toList 0).length := by have := (List.getElem?_eq_some_iff.1 hg).1; omega
    have hx : (louds P ops.toList 0)[i1]? = some (louds P ops.toList 0)[i1] := List.getElem?_eq_getElem hlt
    have hb := chain_of c.chain i1 _ _ hx hg
    rcases aheads_closed (I.closed.more ho hA) hb (.inr rfl) with hS | he
    · have := (I.ld _ _ hx).1 hS
      omega
    · rw [he] at hx
      obtain ⟨_, _, _, h4, _⟩ := louds_at hx
      omega
  rw [heq] at hg
  exact ⟨hg, heq⟩

theorem Inv.lo (I : Inv P nt ops st φ0 w0 a0 S m φ a w) {j : Nat} {o : Oper} (ho : ops[j]? = some o) (hA : Ahead S o) (hl : (okC P o.op).isLoud = false) :
    countIn ((aheads ops.toList).getD j 0) (louds P ops.toList 0) ≤ m := by
  refine countIn_le _ _ fun i x hx hb => ?_
  rcases aheads_closed (I.closed.more ho hA) hb (.inr rfl) with hS | he
  · exact (I.ld _ _ hx).1 hS
  · subst he
    obtain ⟨o', h1, h2, _⟩ := louds_at hx
    have : o' = o := by
      have ho' : ops.toList[x]? = some o := by simpa using ho
      rw [h1] at ho'
      injection ho'
    subst this
    rw [hl] at h2
    cases h2

theorem Inv.hi (I : Inv P nt ops st φ0 w0 a0 S m φ a w) {j : Nat} (hj : ¬ S j) : m ≤ notBehind (aheads ops.toList) j (louds P ops.toList 0) := by
  refine notBehind_ge _ _ I.le fun i x hi hx => ?_
  cases hb : ((aheads ops.toList).getD x 0).testBit j with
  | false => rfl
  | true => exact absurd (aheads_closed I.closed hb ((I.ld _ _ hx).2 hi)) hj

theorem Inv.same_ld (I : Inv P nt ops st φ0 w0 a0 S m φ a w) {j : Nat} {o : Oper} (ho : ops[j]? = some o) (hl : (okC P o.op).isLoud = false) :
    ∀ i x, (louds P ops.toList 0)[i]? = some x → ((S x ∨ x = j) ↔ i < m) := by
  intro i x hx
  rw [← I.ld i x hx]
  refine ⟨fun h => h.resolve_right fun he => ?_, .inl⟩
  subst he
  obtain ⟨o', h1, h2, _⟩ := louds_at hx
  have ho' : ops.toList[x]? = some o := by simpa using ho
  rw [h1] at ho'
  injection ho' with ho'
  subst ho'
  rw [hl] at h2
  cases h2

theorem not_alloc {j : Nat} {p : Pend} {ah ld : List Nat} (hps : (st (j + 1)).ps = (st j).ps) : ¬ AllocAt ah ld st j p := fun h => by
  have := congrArg List.length (hps.symm.trans h.ps)
  simp at this

/-- a step that leaves the world as it is -/
theorem Inv.same (I : Inv P nt ops st φ0 w0 a0 S m φ a w) (c : Ctx P nt ops st) {j : Nat} {o : Oper} (ho : ops[j]? = some o) (hA : Ahead S o) (hl : (okC P o.op).isLoud = false)
    (hps : (st (j + 1)).ps = (st j).ps) {v : AV} {cv : Value} (hp : PutR nt o.dst v (st j).e (st (j + 1)).e) (hv : VR φ v cv) : Inv P nt ops st φ0 w0 a0 (fun i => S i ∨ i = j) m φ (a.put o.dst cv) w := by
  obtain ⟨e1, e2⟩ := env_put c.run c.hnt c.single I.size I.env (fun _ _ e => e) ho hp hv
  exact {
    closed := I.closed.more ho hA
    le := I.le
    ld := I.same_ld ho hl
    heap := I.heap
    fr := I.fr
    num := I.num
    size := e1
    env := e2
    defers := (put_defers _ _ _).trans I.defers
    pend := fun i p hi hal hS hu => by
      rcases hS with hS | rfl
      · exact I.pend i p hi hal hS hu
      · exact absurd hal (not_alloc hps)
    apart := fun i j' p q hi hj' hal haq hS hS' hu hu' => by
      rcases hS with hS | rfl
      · rcases hS' with hS' | rfl
        · exact I.apart i j' p q hi hj' hal haq hS hS' hu hu'
        · exact absurd haq (not_alloc hps)
      · exact absurd hal (not_alloc hps)
    rest := fun i p hi hal hS => I.rest i p hi hal fun h => hS (.inl h) }

/-- a loud one that is passed by -/
theorem Inv.skipLoud (I : Inv P nt ops st φ0 w0 a0 S m φ a w) (c : Ctx P nt ops st) {j : Nat} {o : Oper} (ho : ops[j]? = some o) (hj : ¬ S j) (hA : Ahead S o) (hl : (okC P o.op).isLoud = true)
    (hps : (st (j + 1)).ps = (st j).ps) (hh : (st (j + 1)).h = (st j).h) (hn : (st (j + 1)).n = (st j).n) {v : AV} {cv : Value} (hp : PutR nt o.dst v (st j).e (st (j + 1)).e) (hv : VR φ v cv) :
    Inv P nt ops st φ0 w0 a0 (fun i => S i ∨ i = j) (m + 1) φ (a.put o.dst cv) w := by
  obtain ⟨hm, hb⟩ := I.loud_at c ho hj hA hl
  have hjs : j < ops.size := (Array.getElem?_eq_some_iff.1 ho).1
  have hlt : m < (louds P ops.toList 0).length := (List.getElem?_eq_some_iff.1 hm).1
  obtain ⟨e1, e2⟩ := env_put c.run c.hnt c.single I.size I.env (fun _ _ e => e) ho hp hv
  have hpm := before_pos (P := P) (L := ops.toList) I.le
  have hsz : ops.toList.length = ops.size := by simp
  obtain ⟨s1, s2, _⟩ := run_same' c.run (i := posL (louds P ops.toList 0) m) (j := j) (by omega) (by omega) (by omega)
  have g1 : (st (posL (louds P ops.toList 0) (m + 1))).h = (st (posL (louds P ops.toList 0) m)).h := by rw [posL_succ hm, hh, s1]
  have g2 : (st (posL (louds P ops.toList 0) (m + 1))).n = (st (posL (louds P ops.toList 0) m)).n := by rw [posL_succ hm, hn, s2]
  exact {
    closed := I.closed.more ho hA
    le := hlt
    ld := fun i x hx => by
      constructor
      · rintro (hS | rfl)
        · have := (I.ld i x hx).1 hS; omega
        · obtain ⟨_, _, _, h3, _⟩ := louds_at hx; omega
      · intro hi
        by_cases him : i = m
        · subst him; rw [hm] at hx; injection hx with hx; exact .inr hx.symm
        · exact .inl ((I.ld i x hx).2 (by omega))
    heap := by rw [g1, g2]; exact I.heap
    fr := by rw [g1, g2]; exact I.fr
    num := by rw [g2]; exact I.num
    size := e1
    env := e2
    defers := (put_defers _ _ _).trans I.defers
    pend := fun i p hi hal hS hu => by
      rcases hS with hS | rfl
      · have := I.pend i p hi hal hS (unfl_anti c hlt hal hu)
        rw [g1]
        exact this
      · exact absurd hal (not_alloc hps)
    apart := fun i j' p q hi hj' hal haq hS hS' hu hu' => by
      rcases hS with hS | rfl
      · rcases hS' with hS' | rfl
        · exact I.apart i j' p q hi hj' hal haq hS hS' (unfl_anti c hlt hal hu) (unfl_anti c hlt haq hu')
        · exact absurd haq (not_alloc hps)
      · exact absurd hal (not_alloc hps)
    rest := fun i p hi hal hS => I.rest i p hi hal fun h => hS (.inl h) }

end
end
end Go.Am
