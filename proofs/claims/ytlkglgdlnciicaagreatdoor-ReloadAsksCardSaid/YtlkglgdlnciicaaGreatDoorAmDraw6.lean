/- Regions that draw their order: each step, whatever was listed; and the region. -/
import Derived.Test.YtlkglgdlnciicaaGreatDoorAmDraw5
set_option linter.all false
namespace Go.Am
open Go

section
variable {P : Program} {nt : Nat} {ops : Array Oper} {st : Nat → DSt}

theorem allocs_le : ∀ (L : List Oper) (j : Nat), allocs P L j ≤ allocsIn P L
  | [], _ => Nat.zero_le _
  | _ :: _, 0 => Nat.zero_le _
  | o :: L, j + 1 => by
    have := allocs_le L j
    simp only [allocs, allocsIn]
    cases okC P o.op <;> simp <;> omega

theorem HRel.nameAt {φ : Phi} {h : Hp} {n : Pos} {w : World} (r : HRel P φ h n w) (id : Pos) (hφ : φ id = none) (hn : id.num < n.num) (x : Nat × Nat × Nat) (hx : x.1 < w.heap.size) :
    HRel P (upd φ id x) h n w ∧ Le φ (upd φ id x) := by
  have hle : Le φ (upd φ id x) := fun i y e => by
    rw [upd_ne (fun g => by subst g; rw [hφ] at e; cases e)]
    exact e
  refine ⟨⟨fun i B e => (r.blk i B e).mono hle fun _ _ => rfl, fun i j B C y z hi hj hro ey ez => ?_, fun i y e => ?_⟩, hle⟩
  · obtain ⟨y', ey', _⟩ := (r.blk i B hi).phi
    obtain ⟨z', ez', _⟩ := (r.blk j C hj).phi
    rw [hle _ _ ey'] at ey
    rw [hle _ _ ez'] at ez
    injection ey with ey
    injection ez with ez
    subst ey ez
    exact r.inj i j B C _ _ hi hj hro ey' ez'
  · by_cases g : i = id
    · subst g
      rw [upd_same] at e
      injection e with e
      subst e
      exact ⟨hn, hx⟩
    · rw [upd_ne g] at e
      exact r.bound _ _ e

variable {φ0 : Phi} {w0 : World} {a0 : Act} {S : Nat → Prop} {m : Nat} {φ : Phi} {a : Act} {w : World}

theorem Ctx.rnum (c : Ctx P nt ops st) {j : Nat} {p : Pend} (hj : j < ops.size) (hal : AllocAt (aheads ops.toList) (louds P ops.toList 0) st j p) : (st 0).r.num ≤ p.id.num ∧ p.id.num < (st 0).n.num := by
  have h1 := run_rn c.run (j + 1) (by omega)
  rw [hal.r, Pos.num_nxt, ← hal.id] at h1
  have h2 := allocs_le (P := P) ops.toList (j + 1)
  have h3 := run_r c.run j 0 (Nat.zero_le _) (by omega)
  rw [← hal.id] at h3
  have := c.n0
  exact ⟨h3, by omega⟩

/-- memory is made -/
theorem Inv.alloc (I : Inv P nt ops st φ0 w0 a0 S m φ a w) (c : Ctx P nt ops st) {j : Nat} {o : Oper} (ho : ops[j]? = some o) (hj : ¬ S j) (hA : Ahead S o) (hl : (okC P o.op).isLoud = false)
    {p : Pend} (hal : AllocAt (aheads ops.toList) (louds P ops.toList 0) st j p) {v : AV} {cv : Value} {obj : Obj} {room : Nat} (hp : PutR nt o.dst v (st j).e (st (j + 1)).e)
    (hB : NewB φ room obj p.blk) (hv : VR (upd φ p.id (w.heap.size, 0, room)) v cv) :
    Inv P nt ops st φ0 w0 a0 (fun i => S i ∨ i = j) m (upd φ p.id (w.heap.size, 0, room)) (a.put o.dst cv) (w.alloc obj) := by
  have hjs : j < ops.size := (Array.getElem?_eq_some_iff.1 ho).1
  have hnone := I.rest j p hjs hal hj
  obtain ⟨n1, n2⟩ := c.rnum hjs hal
  have hw : HRel P φ (st (posL (louds P ops.toList 0) m)).h (st (posL (louds P ops.toList 0) m)).n (w.alloc obj) := I.heap.world (by simp) fun id x _ e => heap_alloc_old w obj x.1 (I.heap.bound _ _ e).2
  obtain ⟨r1, hle⟩ := hw.nameAt p.id hnone (Nat.lt_of_lt_of_le n2 I.num) (w.heap.size, 0, room) (by simp)
  obtain ⟨e1, e2⟩ := env_put c.run c.hnt c.single I.size I.env hle ho hp hv
  have dom : ∀ id, (PT.get id (st (posL (louds P ops.toList 0) m)).h).isSome = true → ∃ x, φ id = some x ∧ x.1 < w.heap.size := fun id hi => by
    obtain ⟨B, eB⟩ := Option.isSome_iff_exists.1 hi
    exact (I.heap.blk id B eB).phi
  have old : ∀ id x, (upd φ p.id (w.heap.size, 0, room)) id = some x → id ≠ p.id → φ id = some x := fun id x e hne => by rwa [upd_ne hne] at e
  have olds : ∀ i q, i < ops.size → AllocAt (aheads ops.toList) (louds P ops.toList 0) st i q → i ≠ j → q.id ≠ p.id := fun i q hi haq hne he => hne (alloc_ids c.run hi hjs haq hal he)
  exact {
    closed := I.closed.more ho hA
    le := I.le
    ld := I.same_ld ho hl
    heap := r1
    fr := {
      le := fun id x e => hle _ _ (I.fr.le _ _ e)
      num := I.fr.num
      size := Nat.le_trans I.fr.size (by simp)
      old := fun b hb hn => (heap_alloc_old w obj b (Nat.lt_of_lt_of_le hb I.fr.size)).trans (I.fr.old b hb hn)
      dom := fun id x hi e => by
        obtain ⟨y, ey, _⟩ := dom id hi
        rw [hle _ _ ey] at e
        injection e with e
        subst e
        exact I.fr.dom id _ hi ey
      tape := I.fr.tape
      os := I.fr.os
      out := I.fr.out
      fresh := fun id x e => by
        by_cases g : id = p.id
        · subst g; exact .inr n1
        · exact I.fr.fresh id x (old id x e g)
      kept := fun id B x e hB ex => by
        obtain ⟨k1, k2⟩ := I.fr.kept id B x e hB ex
        exact ⟨k1, (heap_alloc_old w obj x.1 (I.heap.bound _ _ (I.fr.le _ _ ex)).2).trans k2⟩ }
    num := I.num
    size := e1
    env := e2
    defers := (put_defers _ _ _).trans I.defers
    pend := fun i q hi haq hS hu => by
      by_cases hij : i = j
      · subst hij
        have := alloc_same haq hal
        subst this
        refine ⟨hB.br _ hle (upd_same _ _ _) (heap_alloc_new w obj), fun x e => ?_⟩
        rw [upd_same] at e
        injection e with e
        subst e
        refine ⟨I.fr.size, fun id y hid ey => ?_⟩
        obtain ⟨y', ey', hlt⟩ := dom id hid
        rw [hle _ _ ey'] at ey
        injection ey with ey
        subst ey
        exact Nat.ne_of_lt hlt
      · have hSi : S i := hS.resolve_right hij
        obtain ⟨b1, b2⟩ := I.pend i q hi haq hSi hu
        refine ⟨b1.mono hle fun x e => heap_alloc_old w obj x.1 (I.heap.bound _ _ e).2, fun x e => ?_⟩
        have ex := old _ _ e (olds i q hi haq hij)
        refine ⟨(b2 x ex).1, fun id y hid ey => ?_⟩
        obtain ⟨y', ey', hlt⟩ := dom id hid
        rw [hle _ _ ey'] at ey
        injection ey with ey
        subst ey
        exact (b2 x ex).2 id _ hid ey'
    apart := fun i i' q q' hi hi' haq haq' hS hS' hu hu' hne x y ex ey => by
      by_cases hij : i = j
      · subst hij
        have := alloc_same haq hal
        subst this
        rw [upd_same] at ex
        injection ex with ex
        subst ex
        have ey := old _ _ ey (olds i' q' hi' haq' (Ne.symm hne))
        exact Ne.symm (Nat.ne_of_lt (I.heap.bound _ _ ey).2)
      · have ex1 := old _ _ ex (olds i q hi haq hij)
        by_cases hij' : i' = j
        · subst hij'
          have := alloc_same haq' hal
          subst this
          rw [upd_same] at ey
          injection ey with ey
          subst ey
          exact Nat.ne_of_lt (I.heap.bound _ _ ex1).2
        · have ey := old _ _ ey (olds i' q' hi' haq' hij')
          exact I.apart i i' q q' hi hi' haq haq' (hS.resolve_right hij) (hS'.resolve_right hij') hu hu' hne x y ex1 ey
    rest := fun i q hi haq hS => by
      have hij : i ≠ j := fun h => hS (.inr h)
      rw [upd_ne (olds i q hi haq hij)]
      exact I.rest i q hi haq fun h => hS (.inl h) }

theorem Does.imp {r : Result Next} {K K' : Value → World → Prop} (h : Does P r K) (hk : ∀ v w, K v w → K' v w) : Does P r K' := by
  unfold Does at *
  split at h
  · exact hk _ _ h
  · exact hk _ _ h
  · refine Calls.mono h fun e w'' he => ?_
    cases e with
    | returned v => exact hk _ _ he
    | panicked c => exact he.elim
    | outgrown => exact he.elim
  · exact h.elim

/-- what was laid by has been made -/
theorem Inv.made (I : Inv P nt ops st φ0 w0 a0 S m φ a w) (c : Ctx P nt ops st) {j : Nat} {o : Oper} (ho : ops[j]? = some o) (hA : Ahead S o) (hm : (louds P ops.toList 0)[m]? = some j) {p : Pend} (hp : p ∈ (st j).ps) (hk : p.hi ≤ m) :
    ∃ i, i < j ∧ AllocAt (aheads ops.toList) (louds P ops.toList 0) st i p ∧ S i := by
  have hjs : j < ops.size := (Array.getElem?_eq_some_iff.1 ho).1
  obtain ⟨i, hij, hal⟩ := ps_from c.run c.ps0 j (by omega) p hp
  refine ⟨i, hij, hal, ?_⟩
  rw [hal.hi] at hk
  have hlt : m < (louds P ops.toList 0).length := (List.getElem?_eq_some_iff.1 hm).1
  have hx : (louds P ops.toList 0)[notBehind (aheads ops.toList) i (louds P ops.toList 0)]? = some (louds P ops.toList 0)[notBehind (aheads ops.toList) i (louds P ops.toList 0)] := List.getElem?_eq_getElem (by omega)
  have hb := notBehind_bit _ _ hx
  by_cases he : notBehind (aheads ops.toList) i (louds P ops.toList 0) = m
  · rw [← he, hx] at hm
    injection hm with hm
    rw [hm] at hb
    exact (aheads_closed (I.closed.more ho hA) hb (.inr rfl)).resolve_right (by omega)
  · exact aheads_closed I.closed hb ((I.ld _ _ hx).2 (by omega))

theorem flush_get {k : Nat} {id : Pos} : ∀ (ps : List Pend) (h : Hp), (∀ p ∈ ps, p.hi ≤ k → p.id ≠ id) → PT.get id (flushH k ps h) = PT.get id h
  | [], _, _ => rfl
  | p :: ps, h, hp => by
    have ih := flush_get ps h fun q hq => hp q (by simp [hq])
    have e : flushH k (p :: ps) h = if p.hi ≤ k then PT.set (some p.blk) p.id (flushH k ps h) else flushH k ps h := by
      simp only [flushH, List.foldr_cons, Nat.ble_eq]
    rw [e]
    by_cases hk : p.hi ≤ k
    · rw [if_pos hk, get_set_ne _ _ _ _ (hp p (by simp) hk)]
      exact ih
    · rw [if_neg hk]
      exact ih

/-- a loud one -/
theorem Inv.loud (I : Inv P nt ops st φ0 w0 a0 S m φ a w) (c : Ctx P nt ops st) {j : Nat} {o : Oper} (ho : ops[j]? = some o) (hj : ¬ S j) (hA : Ahead S o) (hl : (okC P o.op).isLoud = true)
    (hps : (st (j + 1)).ps = flushPs (st j).k (st j).ps) {v : AV} (hp : PutR nt o.dst v (st j).e (st (j + 1)).e) (he : EnvP φ nt ops o (st j).e a)
    (act : ∀ φ a w, EnvP φ nt ops o (st j).e a → HRel P φ (flushH (st j).k (st j).ps (st j).h) (st j).n w → Does P ((execOp a.eval o).run P w) (After P φ (flushH (st j).k (st j).ps (st j).h) (st j).n w v (st (j + 1)).h (st (j + 1)).n)) :
    Does P ((execOp a.eval o).run P w) (fun cv w' => ∃ φ', Inv P nt ops st φ0 w0 a0 (fun i => S i ∨ i = j) (m + 1) φ' (a.put o.dst cv) w') := by
  obtain ⟨hm, hb⟩ := I.loud_at c ho hj hA hl
  have hjs : j < ops.size := (Array.getElem?_eq_some_iff.1 ho).1
  have hlt : m < (louds P ops.toList 0).length := (List.getElem?_eq_some_iff.1 hm).1
  have hpm := before_pos (P := P) (L := ops.toList) I.le
  have hsz : ops.toList.length = ops.size := by simp
  have hpj : posL (louds P ops.toList 0) m ≤ j := by
    refine Classical.byContradiction fun hn => ?_
    have h1 : before P ops.toList (j + 1) = m + 1 := by
      have := before_pos (P := P) (L := ops.toList) (m := m + 1) hlt
      rw [posL_succ hm] at this
      exact this.1
    have := before_mono (P := P) ops.toList (j + 1) (posL (louds P ops.toList 0) m) (by omega) (by omega)
    omega
  obtain ⟨s1, s2, _⟩ := run_same' c.run (i := posL (louds P ops.toList 0) m) (j := j) (by omega) (by omega) (by omega)
  have hk : (st j).k = m := by rw [run_k c.run c.k0 j (by omega), hb]
  have made : ∀ p ∈ (st j).ps, p.hi ≤ m → ∃ i, i < j ∧ AllocAt (aheads ops.toList) (louds P ops.toList 0) st i p ∧ S i ∧ Unfl (louds P ops.toList 0) st m i p := fun p hp hk => by
    obtain ⟨i, h1, h2, h3⟩ := I.made c ho hA hm hp hk
    exact ⟨i, h1, h2, h3, unfl_of_ps c h2 hpj (by omega) hp⟩
  rw [hk] at hps act
  obtain ⟨f1, f2⟩ := flush_ok (P := P) (φ := φ) (n := (st (posL (louds P ops.toList 0) m)).n) (w := w) (k := m) (st j).ps (st (posL (louds P ops.toList 0) m)).h I.heap
    (fun p hp hpk => by
      obtain ⟨i, h1, h2, h3, h4⟩ := made p hp hpk
      obtain ⟨b1, b2⟩ := I.pend i p (by omega) h2 h3 h4
      exact ⟨b1, fun x ex => (b2 x ex).2⟩)
    (fun p hp q hq hpk hqk hne x y ex ey => by
      obtain ⟨i, h1, h2, h3, h4⟩ := made p hp hpk
      obtain ⟨i', h1', h2', h3', h4'⟩ := made q hq hqk
      refine I.apart i i' p q (by omega) (by omega) h2 h2' h3 h3' h4 h4' (fun hii => hne ?_) x y ex ey
      subst hii
      rw [alloc_same h2 h2'])
  have act1 := act φ a w he (by rw [← s1, ← s2]; exact f1)
  refine act1.imp fun cv w' ⟨φ', b1, b2, b3⟩ => ⟨φ', ?_⟩
  obtain ⟨e1, e2⟩ := env_put c.run c.hnt c.single I.size I.env b2.le ho hp b3
  have hpos : posL (louds P ops.toList 0) (m + 1) = j + 1 := posL_succ hm
  have frf : Fr φ0 (st 0).h (st 0).r w0 φ (flushH m (st j).ps (st j).h) (st j).n w := {
    le := I.fr.le
    num := by rw [← s2]; exact I.fr.num
    size := I.fr.size
    old := I.fr.old
    dom := fun id x hi ex => by
      rw [← s1] at hi
      rcases f2 id hi with hin | ⟨p, hp, hpk, rfl⟩
      · exact I.fr.dom id x hin ex
      · obtain ⟨i, h1, h2, h3, h4⟩ := made p hp hpk
        exact .inl ((I.pend i p (by omega) h2 h3 h4).2 x ex).1
    tape := I.fr.tape
    os := I.fr.os
    out := I.fr.out
    fresh := I.fr.fresh
    kept := fun id B x e hB ex => by
      obtain ⟨k1, k2⟩ := I.fr.kept id B x e hB ex
      refine ⟨?_, k2⟩
      rw [← s1, flush_get _ _ fun p hp hpk g => ?_]
      · exact k1
      · obtain ⟨i, h1, h2, h3, h4⟩ := made p hp hpk
        subst g
        exact ((I.pend i p (by omega) h2 h3 h4).2 x (I.fr.le _ _ ex)).2 p.id x (by simp [k1]) (I.fr.le _ _ ex) rfl }
  -- who is still pending has no block of the heap that the loud one saw
  have still : ∀ i p, i < ops.size → i ≠ j → AllocAt (aheads ops.toList) (louds P ops.toList 0) st i p → S i → Unfl (louds P ops.toList 0) st (m + 1) i p →
      ∀ id y x, (PT.get id (flushH m (st j).ps (st j).h)).isSome = true → φ id = some y → φ p.id = some x → y.1 ≠ x.1 := fun i p hi hne hal hS hu id y x hid ey ex => by
    rw [← s1] at hid
    have hu0 := unfl_anti c hlt hal hu
    rcases f2 id hid with hin | ⟨q, hq, hqk, rfl⟩
    · exact ((I.pend i p hi hal hS hu0).2 x ex).2 id y hin ey
    · obtain ⟨i', h1', h2', h3', h4'⟩ := made q hq hqk
      refine I.apart i' i q p (by omega) hi h2' hal h3' hS h4' hu0 (fun hii => ?_) y x ey ex
      subst hii
      have := alloc_same hal h2'
      subst this
      rcases hu with hu | hu
      · rw [hpos] at hu; omega
      · rw [hpos, hps] at hu
        have := (List.mem_filter.1 hu).2
        rw [Nat.ble_eq_true_of_le hqk] at this
        cases this
  have notal : ∀ p, ¬ AllocAt (aheads ops.toList) (louds P ops.toList 0) st j p := fun p h => by
    have := (alloc_quiet c.run ho h).1
    rw [hl] at this
    cases this
  have reserved : ∀ i p x, i < ops.size → AllocAt (aheads ops.toList) (louds P ops.toList 0) st i p → φ' p.id = some x → φ p.id = some x := fun i p x hi hal ex => by
    rcases b2.fresh _ _ ex with h | h
    · exact h
    · have := (c.rnum hi hal).2
      have := I.num
      rw [← s2] at h
      omega
  exact {
    closed := I.closed.more ho hA
    le := hlt
    ld := fun i x hx => by
      constructor
      · rintro (hS | rfl)
        · have := (I.ld i x hx).1 hS; omega
        · obtain ⟨_, _, _, h3, _⟩ := louds_at hx; omega
      · intro hi
        by_cases him : i = m
        · subst him; rw [hm] at hx; injection hx with hx; exact .inr hx.symm
        · exact .inl ((I.ld i x hx).2 (by omega))
    heap := by rw [hpos]; exact b1
    fr := by rw [hpos]; exact frf.trans b2
    num := by
      rw [hpos]
      refine Nat.le_trans ?_ b2.num
      rw [← s2]
      exact I.num
    size := e1
    env := e2
    defers := (put_defers _ _ _).trans I.defers
    pend := fun i p hi hal hS hu => by
      have hne : i ≠ j := fun h => by subst h; exact notal p hal
      have hSi := hS.resolve_right hne
      have hu0 := unfl_anti c hlt hal hu
      obtain ⟨q1, q2⟩ := I.pend i p hi hal hSi hu0
      refine ⟨q1.mono b2.le fun x ex => b2.old x.1 (I.heap.bound _ _ ex).2 fun id y hid ey => still i p hi hne hal hSi hu id y x hid ey ex, fun x ex => ?_⟩
      have ex0 := reserved i p x hi hal ex
      refine ⟨(q2 x ex0).1, fun id y hid ey => ?_⟩
      rw [hpos] at hid
      have hlt' := (I.heap.bound _ _ ex0).2
      rcases b2.dom id y hid ey with h | ⟨id0, y0, i0, e0, h⟩
      · omega
      · rw [← h]
        exact still i p hi hne hal hSi hu id0 y0 x i0 e0 ex0
    apart := fun i i' p q hi hi' hal haq hS hS' hu hu' hne x y ex ey => by
      have hne1 : i ≠ j := fun h => by subst h; exact notal p hal
      have hne2 : i' ≠ j := fun h => by subst h; exact notal q haq
      exact I.apart i i' p q hi hi' hal haq (hS.resolve_right hne1) (hS'.resolve_right hne2) (unfl_anti c hlt hal hu) (unfl_anti c hlt haq hu') hne x y (reserved i p x hi hal ex) (reserved i' q y hi' haq ey)
    rest := fun i p hi hal hS => by
      have h0 := I.rest i p hi hal fun h => hS (.inl h)
      cases hx : φ' p.id with
      | none => rfl
      | some x => rw [reserved i p x hi hal hx] at h0; cases h0 }

/-- ANY STEP, whatever was listed -/
theorem Inv.step (I : Inv P nt ops st φ0 w0 a0 S m φ a w) (c : Ctx P nt ops st) {j : Nat} {o : Oper} (ho : ops[j]? = some o) (hj : ¬ S j) (hA : Ahead S o) {Q : Exit → Act → World → Prop} :
    wpOp P ops Q j (fun a' w' => ∃ m' φ', Inv P nt ops st φ0 w0 a0 (fun i => S i ∨ i = j) m' φ' a' w') a w := by
  have hjs : j < ops.size := (Array.getElem?_eq_some_iff.1 ho).1
  have hsz : ops.toList.length = ops.size := by simp
  have he : EnvP φ nt ops o (st j).e a := reads_env c.run c.hnt c.single I.closed I.env ho hj hA fun d hd => c.reads j o ho d hd
  have hpm := before_pos (P := P) (L := ops.toList) I.le
  unfold wpOp
  rw [ho]
  simp only
  have h := c.run j o ho
  generalize hs : st (j + 1) = s' at h
  cases h with
  | skip e' hw hp hl =>
    rw [if_neg (by rw [hw φ a he]; simp)]
    exact ⟨m, φ, I.same c ho hA hl (by rw [hs]) (v := undefA) (by rw [hs]; exact hp) (VR_undef φ)⟩
  | skipLoud e' hw hp hl =>
    rw [if_neg (by rw [hw φ a he]; simp)]
    exact ⟨m + 1, φ, I.skipLoud c ho hj hA hl (by rw [hs]) (by rw [hs]) (by rw [hs]) (v := undefA) (by rw [hs]; exact hp) (VR_undef φ)⟩
  | quiet e' v hw hp hl act =>
    rw [if_pos (hw φ a he)]
    obtain ⟨cv, g1, g2⟩ := act φ a w he
    left
    unfold Oper.wp
    rw [g1]
    exact ⟨m, φ, I.same c ho hA hl (by rw [hs]) (v := v) (by rw [hs]; exact hp) g2⟩
  | fixed e' v hw hp hl hlo hhi act =>
    rw [if_pos (hw φ a he)]
    have h1 := I.lo ho hA hl
    have h2 := I.hi hj
    have hk := run_k c.run c.k0 j (by omega)
    obtain ⟨s1, s2, _⟩ := run_same' c.run (i := posL (louds P ops.toList 0) m) (j := j) (by omega) (by omega) (by omega)
    obtain ⟨cv, g1, g2⟩ := act φ _ a w he (by rw [← s1]; exact I.heap)
    left
    unfold Oper.wp
    rw [g1]
    exact ⟨m, φ, I.same c ho hA hl (by rw [hs]) (v := v) (by rw [hs]; exact hp) g2⟩
  | look e' v f vs hw hp hl act =>
    rw [if_pos (hw φ a he)]
    have h1 := I.lo ho hA hl
    have h2 := I.hi hj
    have hmem := run_ls c.run ops.size (j + 1) (by omega) (Nat.le_refl _) ⟨f, vs, v, countIn ((aheads ops.toList).getD j 0) (louds P ops.toList 0), notBehind (aheads ops.toList) j (louds P ops.toList 0)⟩ (by rw [hs]; simp)
    have hhs := (run_hs c.run c.hs0 ops.size (Nat.le_refl _)).2 (posL (louds P ops.toList 0) m) (by omega)
    rw [hpm.1] at hhs
    obtain ⟨cv, g1, g2⟩ := act _ (c.looks _ hmem m _ h1 h2 hhs) φ _ a w he I.heap
    left
    unfold Oper.wp
    rw [g1]
    exact ⟨m, φ, I.same c ho hA hl (by rw [hs]) (v := v) (by rw [hs]; exact hp) g2⟩
  | alloc e' B v hw hp hl ha act =>
    rw [if_pos (hw φ a he)]
    obtain ⟨cv, obj, room, g1, g2, g3⟩ := act φ a w he
    have hal : AllocAt (aheads ops.toList) (louds P ops.toList 0) st j ⟨(st j).r, B, notBehind (aheads ops.toList) j (louds P ops.toList 0)⟩ := ⟨by rw [hs], rfl, by rw [hs], rfl⟩
    left
    unfold Oper.wp
    rw [g1]
    exact ⟨m, _, I.alloc c ho hj hA hl hal (v := v) (by rw [hs]; exact hp) g2 (g3 _ (upd_same _ _ _))⟩
  | loud e' v h2 n2 hw hp hl act =>
    rw [if_pos (hw φ a he)]
    have := I.loud c ho hj hA hl (v := v) (by rw [hs]) (by rw [hs]; exact hp) he (by rw [hs]; exact act)
    left
    exact this.upon fun cv w' ⟨φ', hI⟩ => ⟨m + 1, φ', hI⟩

/-- ALL OF THEM -/
theorem Inv.all (I : Inv P nt ops st φ0 w0 a0 S m φ a w) (c : Ctx P nt ops st) (hS : ∀ i, i < ops.size → S i) :
    Steps' P nt φ0 (st 0).h (st 0).r a0 w0 (st ops.size).e (flushH (st ops.size).k (st ops.size).ps (st ops.size).h) (st ops.size).n a w := by
  have hsz : ops.toList.length = ops.size := by simp
  have hm : m = (louds P ops.toList 0).length := by
    refine Classical.byContradiction fun hne => ?_
    have hlt : m < (louds P ops.toList 0).length := Nat.lt_of_le_of_ne I.le hne
    have hx : (louds P ops.toList 0)[m]? = some (louds P ops.toList 0)[m] := List.getElem?_eq_getElem hlt
    obtain ⟨_, _, _, _, hlx⟩ := louds_at hx
    have := (I.ld _ _ hx).1 (hS _ (by omega))
    omega
  have hpm := before_pos (P := P) (L := ops.toList) I.le
  have hbs : before P ops.toList ops.size = m := by rw [hm, louds_length, hsz]
  obtain ⟨s1, s2, _⟩ := run_same' c.run (i := posL (louds P ops.toList 0) m) (j := ops.size) (by omega) (by omega) (by omega)
  have made : ∀ p ∈ (st ops.size).ps, ∃ i, i < ops.size ∧ AllocAt (aheads ops.toList) (louds P ops.toList 0) st i p ∧ S i ∧ Unfl (louds P ops.toList 0) st m i p := fun p hp => by
    obtain ⟨i, h1, h2⟩ := ps_from c.run c.ps0 ops.size (Nat.le_refl _) p hp
    exact ⟨i, h1, h2, hS i h1, unfl_of_ps c h2 (by omega) (Nat.le_refl _) hp⟩
  obtain ⟨f1, f2⟩ := flush_ok (P := P) (φ := φ) (n := (st (posL (louds P ops.toList 0) m)).n) (w := w) (k := (st ops.size).k) (st ops.size).ps (st (posL (louds P ops.toList 0) m)).h I.heap
    (fun p hp _ => by
      obtain ⟨i, h1, h2, h3, h4⟩ := made p hp
      obtain ⟨b1, b2⟩ := I.pend i p h1 h2 h3 h4
      exact ⟨b1, fun x ex => (b2 x ex).2⟩)
    (fun p hp q hq _ _ hne x y ex ey => by
      obtain ⟨i, h1, h2, h3, h4⟩ := made p hp
      obtain ⟨i', h1', h2', h3', h4'⟩ := made q hq
      refine I.apart i i' p q h1 h1' h2 h2' h3 h3' h4 h4' (fun hii => hne ?_) x y ex ey
      subst hii
      rw [alloc_same h2 h2'])
  refine ⟨φ, ⟨I.size, fun t v ht hv => ?_⟩, by rw [← s1, ← s2]; exact f1, ?_, I.defers⟩
  · refine I.env t v ht ?_
    unfold envS
    by_cases hw : Written ops S t
    · rw [if_pos hw]; exact hv
    · rw [if_neg hw, ← env_keep c.run ht ops.size 0 (Nat.zero_le _) (Nat.le_refl _) fun x o _ hx hox hdx => hw ⟨x, o, hox, hdx, hS x hx⟩]
      exact hv
  · exact {
      le := I.fr.le
      num := by rw [← s2]; exact I.fr.num
      size := I.fr.size
      old := I.fr.old
      dom := fun id x hi ex => by
        rw [← s1] at hi
        rcases f2 id hi with hin | ⟨p, hp, _, rfl⟩
        · exact I.fr.dom id x hin ex
        · obtain ⟨i, h1, h2, h3, h4⟩ := made p hp
          exact .inl ((I.pend i p h1 h2 h3 h4).2 x ex).1
      tape := I.fr.tape
      os := I.fr.os
      out := I.fr.out
      fresh := I.fr.fresh
      kept := fun id B x e hB ex => by
        obtain ⟨k1, k2⟩ := I.fr.kept id B x e hB ex
        refine ⟨?_, k2⟩
        rw [← s1, flush_get _ _ fun p hp hpk g => ?_]
        · exact k1
        · obtain ⟨i, h1, h2, h3, h4⟩ := made p hp
          subst g
          exact ((I.pend i p h1 h2 h3 h4).2 x (I.fr.le _ _ ex)).2 p.id x (by simp [k1]) (I.fr.le _ _ ex) rfl }

theorem any_ok (c : Ctx P nt ops st) {Q : Exit → Act → World → Prop} (hq : ∀ a' w', Steps' P nt φ0 (st 0).h (st 0).r a0 w0 (st ops.size).e (flushH (st ops.size).k (st ops.size).ps (st ops.size).h) (st ops.size).n a' w' → Q .normal a' w') :
    ∀ (fuel : Nat) (listed : Array Bool) (m : Nat) (φ : Phi) (a : Act) (w : World), listed.size = ops.size → listed.toList.count false ≤ fuel →
      Inv P nt ops st φ0 w0 a0 (fun i => listed.getD i false = true) m φ a w → wpAny P .any ops Q fuel listed a w := by
  have ready : ∀ (listed : Array Bool), listed.size = ops.size → Region.ready .any ops listed = [] → ∀ i, i < ops.size → listed.getD i false = true := fun listed hsz hr i => by
    induction i using Nat.strongRecOn with
    | ind i ih =>
      intro hi
      cases hb : listed.getD i false with
      | true => rfl
      | false =>
        exfalso
        have hb' : listed.getD i true = false := by
          simp only [Array.getD] at hb ⊢
          rw [dif_pos (by omega)] at hb ⊢
          exact hb
        have : i ∈ Region.ready .any ops listed := by
          unfold Region.ready
          rw [List.mem_filter]
          refine ⟨by simpa using hi, ?_⟩
          have ho : ops[i]? = some ops[i] := by simp [hi]
          rw [hb', ho]
          simp only [Bool.not_false, Bool.true_and, Option.map_some, Option.getD_some, Array.all_eq_true]
          intro x hx
          cases hbd : Region.binds .any ops[i].after[x] with
          | false => simp
          | true =>
            have := c.edges i _ ho ops[i].after[x] (by simp) hbd
            simp [ih _ this (by omega)]
        rw [hr] at this
        cases this
  intro fuel
  induction fuel with
  | zero =>
    intro listed m φ a w hsz hc I
    have hall : ∀ i, i < ops.size → listed.getD i false = true := fun i hi => by
      have h0 : listed.toList.count false = 0 := by omega
      rw [List.count_eq_zero] at h0
      simp only [Array.getD]
      rw [dif_pos (by omega)]
      cases hb : listed[i]'(by omega) with
      | true => simpa using hb
      | false =>
        exfalso
        exact h0 (by rw [← hb]; simp)
    refine ⟨?_, hq _ _ (I.all c hall)⟩
    unfold Region.ready
    rw [List.filter_eq_nil_iff]
    intro i hi
    have hi : i < ops.size := by simpa using hi
    have := hall i hi
    have hb' : listed.getD i true = true := by
      simp only [Array.getD] at this ⊢
      rw [dif_pos (by omega)] at this ⊢
      exact this
    rw [hb']
    simp
  | succ fuel ih =>
    intro listed m φ a w hsz hc I
    refine ⟨fun hr => hq _ _ (I.all c (ready listed hsz hr)), fun i hi => ?_⟩
    unfold Region.ready at hi
    rw [List.mem_filter] at hi
    obtain ⟨hi1, hi2⟩ := hi
    have hi1 : i < ops.size := by simpa using hi1
    rw [Bool.and_eq_true] at hi2
    obtain ⟨hi2, hi3⟩ := hi2
    have ho : ops[i]? = some ops[i] := by simp [hi1]
    rw [ho] at hi3
    simp only [Option.map_some, Option.getD_some, Array.all_eq_true'] at hi3
    have hil : listed[i]'(by omega) = false := by
      simp only [Array.getD] at hi2
      rw [dif_pos (by omega)] at hi2
      simpa using hi2
    have hnS : ¬ (listed.getD i false = true) := by
      simp only [Array.getD]
      rw [dif_pos (by omega)]
      intro h
      have : listed[i]'(by omega) = true := h
      rw [hil] at this
      cases this
    have hA : Ahead (fun i => listed.getD i false = true) ops[i] := fun e he hb => by
      have := hi3 e (by simpa using he)
      rw [hb] at this
      simpa using this
    refine wpOp_mono (fun a' w' ⟨m', φ', I'⟩ => ih (listed.setIfInBounds i true) m' φ' a' w' (by simpa using hsz) ?_ ?_) (I.step c ho hnS hA)
    · have hlt : i < listed.toList.length := by simp; omega
      have e1 : (listed.setIfInBounds i true).toList = listed.toList.set i true := by simp
      rw [e1, List.count_set hlt]
      have hget : listed.toList[i] = false := by simpa using hil
      have hpos : 0 < listed.toList.count false := List.count_pos_iff.2 (by rw [← hget]; exact List.getElem_mem _)
      rw [hget, if_pos (show (false == false) = true from rfl), if_neg (show ¬ (true == false) = true by simp)]
      omega
    · have e : (fun i' => (listed.setIfInBounds i true).getD i' false = true) = fun i' => listed.getD i' false = true ∨ i' = i := by
        funext i'
        rw [Array.getD_eq_getD_getElem?, Array.getElem?_setIfInBounds, Array.getD_eq_getD_getElem?]
        by_cases h : i = i'
        · subst h
          rw [if_pos rfl, if_pos (by omega)]
          simp
        · rw [if_neg h]
          simp only [eq_iff_iff]
          exact ⟨.inl, fun hh => hh.resolve_right (Ne.symm h)⟩
      rw [e]
      exact I'

/-- REGIONS THAT DRAW THEIR ORDER ARE SOUND. -/
theorem drawOk (hmix : P.follows .mixedOrders = true) : DrawOk P := by
  intro nt id ops hnt call hc e h n k hk
  unfold regionC at hk
  split at hk
  · rename_i hst hwr
    rw [Bool.and_eq_true] at hst
    obtain ⟨hed, hch⟩ := hst
    obtain ⟨wr, hreads, hWr⟩ := writersK_of (ops := ops) ops.toList 0 .L rfl (fun d i _ => by
      constructor
      · intro h; rw [get_L] at h; cases h
      · rintro ⟨h, _⟩; omega) hwr
    obtain ⟨n', hk1, hn'⟩ := advK_of _ _ _ hk
    obtain ⟨st, h0, hk2, hrun⟩ := drawC_of hnt hc ops.toList 0 ⟨e, h, n', n, 0, [], [], [h]⟩ rfl (c := fun e' h' n' _ q ps ls hs =>
      wK (looksStay hs.reverse ls) (flushK q ps h' fun ps' h2 => noPend ps' (k .normal e' h2 n'))) hk1
    unfold atSt at hk2
    obtain ⟨hlk, hk3⟩ := wK_of hk2
    have hk4 := flushK_of hk3
    have hnp : flushPs (st ops.size).k (st ops.size).ps = [] ∧ k .normal (st ops.size).e (flushH (st ops.size).k (st ops.size).ps (st ops.size).h) (st ops.size).n = true := by
      revert hk4
      cases flushPs (st ops.size).k (st ops.size).ps with
      | nil => exact fun hh => ⟨rfl, hh⟩
      | cons p ps => exact fun hh => by cases hh
    have c : Ctx P nt ops st := {
      hnt := hnt
      run := fun i o ho => hrun i o (Nat.zero_le _) ho
      single := hWr.single
      reads := fun j o ho d hd => allReads_of hWr ops.toList 0 rfl hreads j o (Nat.zero_le _) ho d hd
      chain := hch
      looks := looksStay_of hlk
      fin := hnp.1
      k0 := by rw [h0]
      ps0 := by rw [h0]
      hs0 := by rw [h0]
      n0 := by rw [h0]; simp only; omega
      edges := fun j o ho ed he hb => by have := edges_of ops.toList 0 hed j o (by simpa using ho) ed he hb; omega }
    refine ⟨.normal, _, _, _, hnp.2, fun φ a w Q ha hr hq => ?_⟩
    refine wp_region_any hmix (any_ok (φ0 := φ) (a0 := a) (w0 := w) c (fun a' w' hs => hq a' w' ?_) ops.size _ 0 φ a _ (by simp) ?_ ?_)
    · rw [h0] at hs
      exact hs
    · refine Nat.le_trans List.count_le_length ?_
      simp
    · have hb0 : ∀ i, ¬ ((Array.replicate ops.size false).getD i false = true) := fun i => by
        rw [Array.getD_eq_getD_getElem?, Array.getElem?_replicate]
        split <;> simp
      exact {
        closed := fun j o _ hS => absurd hS (hb0 j)
        le := Nat.zero_le _
        ld := fun i x _ => ⟨fun h => absurd h (hb0 x), fun h => by omega⟩
        heap := by
          show HRel P φ (st 0).h (st 0).n _
          rw [h0]
          exact (⟨hr.blk, hr.inj, fun id x ex => ⟨by have := (hr.bound id x ex).1; omega, (hr.bound id x ex).2⟩⟩ : HRel P φ h n' w).drew
        fr := by
          show Fr φ (st 0).h (st 0).r w φ (st 0).h (st 0).n _
          rw [h0]
          exact ⟨fun _ _ e => e, by simp only; omega, Nat.le_refl _, fun _ _ _ => rfl, fun id x i e => .inr ⟨id, x, i, e, rfl⟩, rfl, rfl, rfl, fun _ _ e => .inl e, fun _ _ _ e _ _ => ⟨e, rfl⟩⟩
        num := Nat.le_refl _
        size := ha.size
        env := fun t v ht hv => by
          refine ha.val t v ht ?_
          unfold envS at hv
          rw [if_neg (by rintro ⟨i, _, _, _, hS⟩; exact hb0 i hS), h0] at hv
          exact hv
        defers := rfl
        pend := fun i p _ _ hS => absurd hS (hb0 i)
        apart := fun i j p q _ _ _ _ hS => absurd hS (hb0 i)
        rest := fun i p hi hal _ => by
          cases hx : φ p.id with
          | none => rfl
          | some x =>
            have h1 := (c.rnum hi hal).1
            rw [h0] at h1
            have := (hr.bound _ _ hx).1
            simp only at h1
            omega }
  · cases hk

end
end Go.Am
