/- Operations that act: append, copy, clear. -/
import Derived.Test.YtlkglgdlnciicaaGreatDoorAmLoud
set_option linter.all false
namespace Go.Am
open Go

section
variable {P : Program}

theorem bytesUp_of : ∀ (l : List Nat) (k : List AV → Bool), srcK.bytesUp l k = true → k (l.map fun n => .i .u8 (.ofNat n)) = true := by
  intro l
  induction l with
  | nil => exact fun _ h => h
  | cons n l ih => exact fun k h => ih (fun r => k (.i .u8 (.ofNat n) :: r)) h

theorem VRs_up {φ : Phi} : ∀ (bs : List UInt8), VRs φ ((bs.map UInt8.toNat).map fun n => AV.i .u8 (.ofNat n)) (bs.map fun b => Value.int .u8 b.toNat)
  | [] => by simp [VRs]
  | b :: bs => by
    simp only [List.map_cons, VRs, VR]
    exact ⟨rfl, VRs_up bs⟩

theorem run_loadCells_zero (a : Addr) (w : World) : (loadCells a 0).run P w = .ok #[] w := by simp [loadCells, loadCellsFrom]

theorem srcK_of {h : Hp} {esz : Nat} {x : AV} {k : Nat → List AV → Bool} (hk : srcK h esz x k = true) :
    ∃ m xs, k m xs = true ∧ xs.length = m * esz ∧ ∀ (φ : Phi) (nx : Pos) (w : World) (cv : Value), HRel P φ h nx w → VR φ x cv →
      (Builtin.lenOf cv).run P w = .ok m w ∧ (∀ y ∈ xs, y.flat = true) ∧ ∀ q, q ≤ m → ∃ arr, (Builtin.firstCells esz q cv).run P w = .ok arr w ∧ VRs φ (xs.take (q * esz)) arr.toList := by
  cases x <;> first | (cases hk; done) | skip
  case s l =>
    have h' : wK (Nat.beq esz 1) (fNat (lenN l) fun n => srcK.bytesUp l fun cs => k n cs) = true := hk
    obtain ⟨h1, h2⟩ := wK_of h'
    have h1 := nbeq_of h1
    subst h1
    rw [fNat_eq, lenN_eq] at h2
    have h3 := bytesUp_of _ _ h2
    refine ⟨_, _, h3, by simp, fun φ nx w cv hr hv => ?_⟩
    simp only [VR] at hv
    obtain ⟨s, rfl, rfl⟩ := hv
    refine ⟨by simp [Builtin.lenOf, bytesOfBA], by simp [AV.flat], fun q hq => ?_⟩
    refine ⟨_, rfl, ?_⟩
    have : (bytesOfBA s).take q = bytesOfBA (s.extract 0 q) := by rw [extract_bytes]; simp
    rw [Nat.mul_one, ← List.map_take, this]
    have := VRs_up (φ := φ) (s.extract 0 q).data.toList
    simpa [bytesOfBA] using this
  case nilsl =>
    refine ⟨0, [], hk, by simp, fun φ nx w cv hr hv => ?_⟩
    simp only [VR] at hv
    subst hv
    refine ⟨by simp [Builtin.lenOf], by simp, fun q hq => ⟨#[], by simp [Builtin.firstCells], by simp [VRs]⟩⟩
  case sl id off n cap e =>
    have h' : wK (Nat.beq e esz) (fNat (n * esz) fun m => Nat.rec (motive := fun _ => Bool) (k n []) (fun m' _ => cellsK h id fun _ l => cutK l off (Nat.succ m') fun cs => k n cs) m) = true := hk
    obtain ⟨h1, h2⟩ := wK_of h'
    have h1 := nbeq_of h1
    subst h1
    rw [fNat_eq] at h2
    cases hm : n * e with
    | zero =>
      rw [hm] at h2
      refine ⟨n, [], h2, by simp [hm], fun φ nx w cv hr hv => ?_⟩
      simp only [VR] at hv
      obtain ⟨b, base, room, a, cc, hφ, rfl, _⟩ := hv
      refine ⟨by simp [Builtin.lenOf], by simp, fun q hq => ⟨#[], ?_, by simp [VRs]⟩⟩
      have : q * e = 0 := by
        have := Nat.mul_le_mul_right e hq
        omega
      simp only [Builtin.firstCells, this]
      exact run_loadCells_zero a w
    | succ m' =>
      rw [hm] at h2
      have h3 : cellsK h id (fun _ l => cutK l off (Nat.succ m') fun cs => k n cs) = true := h2
      obtain ⟨e', l, hg, h4⟩ := cellsK_of h3
      obtain ⟨hle, h5⟩ := cutK_of h4
      refine ⟨n, _, h5, by simp; omega, fun φ nx w cv hr hv => ?_⟩
      simp only [VR] at hv
      obtain ⟨b, base, room, a, cc, hφ, rfl, hcc, ha, _⟩ := hv
      obtain ⟨c, cu, cf, e1, e2, e3, e4, e5⟩ := cells_at hr hg hφ
      have hn : 0 < n := by
        cases n with
        | zero => simp at hm
        | succ _ => omega
      obtain ⟨rfl, _⟩ := ha (by omega)
      refine ⟨by simp [Builtin.lenOf], flat_take e5 _ _, fun q hq => ?_⟩
      have hqe : q * e ≤ m' + 1 := by
        have := Nat.mul_le_mul_right e hq
        omega
      refine ⟨_, run_loadCells_of (P := P) e1 (show base + off + q * e ≤ c.size by omega), ?_⟩
      rw [List.take_take, Nat.min_eq_left hqe]
      simpa using VRs_cut e4 (show off + q * e ≤ l.length by omega)

theorem exec_builtin {o : Oper} {b : Builtin} {args : Array Operand} {ts : Array TypeId} {ρ : Operand → Value} {cargs : List Value} {w : World} {K : Value → World → Prop} (ho : o.op = .call ⟨.builtin b, args, ts⟩) (ha : args.map ρ = cargs.toArray)
    (h : ∀ cb, Does P ((builtin b ts o.type cb cargs.toArray).run P w) K) : Does P ((execOp ρ o).run P w) K := by
  rw [exec_call ho, ha]
  exact h _

theorem does_v {s : Sem Value} {w w' : World} {cv : Value} {K : Value → World → Prop} (h : s.run P w = .ok cv w') (hk : K cv w') : Does P ((do pure (Next.value (← s)) : Sem Next).run P w) K := by
  rw [exec_v h]
  exact hk

theorem Fr.of_drop {φ φ' : Phi} {h h' : Hp} {n n' : Pos} {w w' : World} {id : Pos} (hro : ∀ B, PT.get id h = some B → B.isRo = false) (f : Fr φ (PT.set none id h) n w φ' h' n' w') : Fr φ h n w φ' h' n' w' :=
  ⟨f.le, f.num, f.size, fun b hb hn => f.old b hb fun i x hi e => hn i x (isSome_set_none hi).2 e, fun i x hi e => (f.dom i x hi e).imp_right fun ⟨i0, x0, a, b, c⟩ => ⟨i0, x0, (isSome_set_none a).2, b, c⟩, f.tape, f.os, f.out, f.fresh, fun i B x e hB ex => f.kept i B x (by rw [get_set_ne _ _ _ _ (fun g => by subst g; rw [hro B e] at hB; cases hB)]; exact e) hB ex⟩

theorem growBy_le (N : Nat) : ∀ (r c : Nat), Builtin.growBy N r c ≤ max c (N + (N + 768) / 4)
  | 0, c => by simp only [Builtin.growBy]; omega
  | r + 1, c => by
    simp only [Builtin.growBy]
    split
    · omega
    · have := growBy_le N r (c + (c + 768) / 4)
      omega

theorem next_le {need cc : Nat} (h : cc < need) : Builtin.nextslicecap need cc ≤ 2 * need + 192 := by
  unfold Builtin.nextslicecap
  split
  · omega
  · split
    · omega
    · have := growBy_le need 4 cc
      omega

/-- what append asks of a type of elements -/
structure Fits (P : Program) (e : TypeId) (sz by_ : Nat) (z : List AV) : Prop where
  size : szT P e = some sz
  bytes : bytesT P e = some by_
  zero : zeroCellsT P e = some z
  len : z.length = sz

theorem run_append_grow {e t u ty : TypeId} {ts : Array TypeId} {sz by_ : Nat} {z : List AV} (hf : Fits P e sz by_ z) (ht : ts[0]? = some t) (hu' : ts[1]? = some u) (hu : P.underlying t = some (.slice e)) (hud : (∃ e', P.underlying u = some (.slice e')) ∨ P.underlying u = some .string)
    {base : Option Addr} {k cc m : Nat} {x : Value} {us : List Value} {old new : Array Value} {w : World} (hgrow : cc < k + m) (hsmall : (k + m) * (by_ + 1) ≤ 1000000)
    (hlen : (Builtin.lenOf x).run P w = .ok m w) (hold : (Builtin.firstCells sz k (.slice base k cc)).run P w.drew = .ok old w.drew) (hnew : (Builtin.firstCells sz m x).run P w.drew = .ok new w.drew) :
    ∃ (nc : Nat) (rest : Array Value), k + m ≤ nc ∧ rest.size = (nc - (k + m)) * sz ∧
      (Builtin.append_ ts ty (Value.slice base k cc :: x :: us).toArray).run P w = .ok (.slice (some ⟨w.heap.size, 0, none⟩) (k + m) nc) (w.drew.alloc (.cells (old ++ new ++ rest) e)) := by
  obtain ⟨zv, ez, rz, _⟩ := run_zeroCells_of (P := P) (φ := fun _ => none) hf.zero w.drew
  obtain ⟨i, hi, hi1, hi2⟩ := both_of hf.size hf.bytes
  have hzs : zv.cells.size = sz := by rw [← hf.len, rz.length]; simp
  refine ⟨(Question.appendCap (k + m) cc e).cut (w.tape w.drawn (.appendCap (k + m) cc e)), Builtin.zeroCells zv.cells ((Question.appendCap (k + m) cc e).cut (w.tape w.drawn (.appendCap (k + m) cc e)) - (k + m)), ?_, ?_, ?_⟩
  · simp [Question.cut]
  · rw [size_zeroCells, hzs]
  · have n1 : ¬ (k + m ≤ cc) := by omega
    have hle1 : k + m ≤ 1000000 := Nat.le_trans (Nat.le_mul_of_pos_right _ (by omega)) hsmall
    have n2 : ¬ (((k + m : Nat) : Int) > IntKind.i64.max) := by
      have : IntKind.i64.max = 9223372036854775807 := rfl
      omega
    have n3 : ¬ (Builtin.nextslicecap (k + m) cc * by_ > 2 ^ 48) := by
      have h1 : (k + m) * by_ ≤ 1000000 := Nat.le_trans (Nat.mul_le_mul_left _ (by omega)) hsmall
      have h2 : by_ ≤ (k + m) * by_ := Nat.le_mul_of_pos_left _ (by omega)
      have h3 := Nat.mul_le_mul_right by_ (next_le hgrow)
      rw [Nat.add_mul, Nat.mul_assoc] at h3
      omega
    rcases hud with ⟨e', hud⟩ | hud
    all_goals
      simp only [Builtin.append_, ht, hu', List.getElem?_toArray, List.getElem?_cons_zero, List.getElem?_cons_succ, Sem.run_bind, run_underlying hu, Result.andThen_ok, run_sizeOf_of hf.size, run_underlying hud, Sem.run_pure, Bool.false_eq_true, if_false, hlen, if_neg n1, typeInfo]
      simp [n3, hi, hi2, Question.forced, hold, hnew, ez, newRow]
      intro hh
      omega

theorem run_append_fits {e t u ty : TypeId} {ts : Array TypeId} {sz : Nat} (hs : szT P e = some sz) (ht : ts[0]? = some t) (hu' : ts[1]? = some u) (hu : P.underlying t = some (.slice e)) (hud : (∃ e', P.underlying u = some (.slice e')) ∨ P.underlying u = some .string)
    {base : Option Addr} {k cc m : Nat} {x : Value} {us : List Value} {new : Array Value} {w w' : World} (hfit : k + m ≤ cc)
    (hlen : (Builtin.lenOf x).run P w = .ok m w) (hnew : (Builtin.firstCells sz m x).run P w = .ok new w) (hst : (match base with | some a => storeCells (a.add (k * sz)) new.toList | none => pure ()).run P w = .ok () w') :
    (Builtin.append_ ts ty (Value.slice base k cc :: x :: us).toArray).run P w = .ok (.slice base (k + m) cc) w' := by
  rcases hud with ⟨e', hud⟩ | hud
  all_goals
    simp only [Builtin.append_, ht, hu', List.getElem?_toArray, List.getElem?_cons_zero, List.getElem?_cons_succ, Sem.run_bind, run_underlying hu, Result.andThen_ok, run_sizeOf_of hs, run_underlying hud, Sem.run_pure, Bool.false_eq_true, if_false, hlen, if_pos hfit]
    cases base with
    | none =>
      simp at hst
      subst hst
      simp [hnew]
    | some a => simp [hnew, hst]

/-- in place: a new identity for the rest of the row -/
theorem append_fits {φ : Phi} {h : Hp} {n : Pos} {w : World} {id : Pos} {e : TypeId} {l xs : List AV} {b base room off k m cc sz : Nat} {new : List Value} (hr : HRel P φ h n w) (hg : PT.get id h = some (.cells e l)) (hφ : φ id = some (b, base, room))
    (hsz : szT P e = some sz) (hal : off % sz = 0) (hle : off + k * sz ≤ l.length) (hroom : off + cc * sz ≤ room) (hfit : k + m ≤ cc) (hx : VRs φ xs new) (hxl : xs.length = m * sz) (hf : ∀ x ∈ xs, x.flat = true) :
    ∃ w', (storeCells ((⟨b, base + off, none⟩ : Addr).add (k * sz)) new).run P w = .ok () w' ∧
      After P φ h n w (.sl n 0 (k + m) none sz) (PT.set (some (.cells e ((l.drop off).take (k * sz) ++ xs))) n (PT.set none id h)) n.nxt (.slice (some ⟨b, base + off, none⟩) (k + m) cc) w' := by
  obtain ⟨c, e1, e2, e3, e4, e5, e6⟩ := cells_atW hr hg hφ
  have hnl : new.length = m * sz := by rw [← hx.length]; exact hxl
  have hcc := Nat.mul_le_mul_right sz hfit
  rw [Nat.add_mul] at hcc
  have hadd : ((⟨b, base + off, none⟩ : Addr).add (k * sz)) = ⟨b, base + off + k * sz, none⟩ := by unfold Addr.add; split <;> simp_all
  have hst := run_storeCells_at P b (base + off + k * sz) e new 0 c w e1 (by rw [hnl]; omega) (flats_oneCell hx hf)
  simp only [Nat.add_zero] at hst
  rw [hadd]
  refine ⟨_, hst, ?_⟩
  have hcut : VRs φ ((l.drop off).take (k * sz)) ((c.toList.drop (base + off)).take (k * sz)) := by
    have := VRs_cut e4 hle
    rwa [List.drop_drop] at this
  have hlen : ((l.drop off).take (k * sz) ++ xs).length = k * sz + m * sz := by simp; omega
  have hB : BR P (upd φ n (b, base + off, room - off)) (w.setRow b (c.toList.take (base + off + k * sz) ++ new ++ c.toList.drop (base + off + k * sz + new.length)).toArray) n (.cells e ((l.drop off).take (k * sz) ++ xs)) := by
    refine ⟨b, base + off, room - off, _, upd_same _ _ _, setRow_heap w b c _ e (0, 0) e1, by simp [hnl]; omega, by rw [hlen]; omega, ?_, ?_, ?_⟩
    · rw [hlen, List.toList_toArray, lay_list (by simpa using (show base + off + (k * sz + m * sz) ≤ c.size by omega)) (by omega)]
      refine VRs.mono (upd_le hr) _ _ (VRs.append ?_ ?_)
      · rw [List.take_take, Nat.min_eq_left (by omega)]
        exact hcut
      · rw [List.drop_eq_nil_of_le (by simp; omega), List.append_nil]
        exact hx
    · intro y hy
      rcases List.mem_append.1 hy with h1 | h1
      · exact flat_take e5 _ _ y h1
      · exact hf y h1
    · intro s hs
      rw [hsz] at hs
      injection hs with hs
      subst hs
      rw [Nat.add_mod, e6 _ hsz, hal]
      simp
  obtain ⟨a1, a2⟩ := hr.take (x := (b, base, room)) id _ (base + off) (room - off) hg rfl hφ (by simp) (fun j hj => setRow_other _ _ _ _ hj) hB rfl rfl rfl
  refine ⟨_, a1, a2, ?_⟩
  simp only [VR]
  exact ⟨b, base + off, room - off, _, cc, upd_same _ _ _, rfl, hfit, fun _ => ⟨by simp, by omega⟩, by simp⟩

/-- a new row -/
theorem append_grown {φ : Phi} {h : Hp} {n : Pos} {w : World} {e : TypeId} {olds xs : List AV} {old new rest : Array Value} {k m nc sz : Nat} (hr : HRel P φ h n w) (ho : VRs φ olds old.toList) (hx : VRs φ xs new.toList) (hol : olds.length = k * sz) (hxl : xs.length = m * sz)
    (hfo : ∀ x ∈ olds, x.flat = true) (hf : ∀ x ∈ xs, x.flat = true) (hnc : k + m ≤ nc) (hrest : rest.size = (nc - (k + m)) * sz) :
    After P φ h n w (.sl n 0 (k + m) none sz) (PT.set (some (.cells e (olds ++ xs))) n h) n.nxt (.slice (some ⟨w.heap.size, 0, none⟩) (k + m) nc) (w.drew.alloc (.cells (old ++ new ++ rest) e)) := by
  have h1 := ho.length
  have h2 := hx.length
  have hsize : (old ++ new ++ rest).size = nc * sz := by
    simp only [Array.size_append, hrest]
    simp at h1 h2
    rw [← h1, ← h2, hol, hxl, ← Nat.add_mul, ← Nat.add_mul]
    congr 1
    omega
  have hncs := Nat.mul_le_mul_right sz hnc
  rw [Nat.add_mul] at hncs
  obtain ⟨a1, a2⟩ := hr.drew.add (.cells (old ++ new ++ rest) e (0, 0)) (nc * sz) (.cells e (olds ++ xs)) ⟨_, rfl, hsize.symm, by simp [hol, hxl]; omega, by
    have : (old ++ new ++ rest).toList.take (olds ++ xs).length = old.toList ++ new.toList := by
      simp only [Array.toList_append]
      rw [List.take_append_of_le_length (by simp; simp at h1 h2; omega), List.take_of_length_le (by simp; simp at h1 h2; omega)]
    rw [this]
    exact VRs.append ho hx, fun y hy => by
    rcases List.mem_append.1 hy with h1 | h1
    · exact hfo y h1
    · exact hf y h1⟩
  refine ⟨_, a1, (Fr.drew φ h n w).trans a2, ?_⟩
  simp only [VR]
  exact ⟨_, _, _, _, nc, upd_same _ _ _, rfl, hnc, fun _ => ⟨by rfl, by simp⟩, by simp⟩

theorem append_ok (args : Array Operand) (ts : Array TypeId) : LoudOk P (.call ⟨.builtin .append, args, ts⟩) (loudC P (.call ⟨.builtin .append, args, ts⟩)) := by
  show LoudOk P _ (appendC P ts)
  unfold appendC
  cases ht : ts[0]? with
  | none => exact loudBad_ok _
  | some t =>
    cases hu' : ts[1]? with
    | none => exact loudBad_ok _
    | some u =>
      simp only
      cases he : elemT P t with
      | none => exact loudBad_ok _
      | some e =>
        cases hud0 : P.underlying u with
        | none => exact loudBad_ok _
        | some ud =>
          simp only
          cases hs : szT P e with
          | none => exact loudBad_ok _
          | some sz0 =>
            cases hb : bytesT P e with
            | none => cases sz0 <;> exact loudBad_ok _
            | some by_ =>
              cases sz0 with
              | zero => exact loudBad_ok _
              | succ sz =>
                cases hap : appendOk P e ud with
                | false => exact loudBad_ok _
                | true =>
                      obtain ⟨hap, z, hz, hzl⟩ : appendable ud = true ∧ ∃ z, zeroCellsT P e = some z ∧ z.length = sz + 1 := by
                        unfold appendOk at hap
                        split at hap
                        · rename_i z zs h1 h2 h3
                          rw [hs] at h2
                          injection h2 with h2
                          have := nbeq_of hap
                          rw [lenN_eq] at this
                          exact ⟨h1, zs, h3, by omega⟩
                        · cases hap
                      have hf : Fits P e (sz + 1) by_ z := ⟨hs, hb, hz, hzl⟩
                      have hu := elemT_of he
                      have hud : (∃ e', P.underlying u = some (.slice e')) ∨ P.underlying u = some .string := by
                        cases ud <;> first | (exact .inl ⟨_, hud0⟩) | (exact .inr hud0) | (cases hap; done)
                      intro call _ vs h n c hk
                      obtain ⟨s, x, r, rfl, h1⟩ := duo_of hk
                      obtain ⟨m, xs, h2, hxs, hsrc⟩ := srcK_of h1
                      cases m with
                      | zero =>
                        have key : ∀ (φ : Phi) (w : World) (cs cx : Value) (us : List Value) (base : Option Addr) (k cc : Nat), HRel P φ h n w → VR φ x cx → cs = .slice base k cc → k ≤ cc → ∀ ty, (Builtin.append_ ts ty (cs :: cx :: us).toArray).run P w = .ok cs w := by
                          intro φ w cs cx us base k cc hr hx hcs hkc ty
                          obtain ⟨q1, q2, q3⟩ := hsrc φ n w cx hr hx
                          obtain ⟨arr, q4, q5⟩ := q3 0 (Nat.le_refl _)
                          have hz : arr = #[] := by
                            have := q5.length
                            simp at this
                            exact Array.eq_empty_of_size_eq_zero this.symm
                          subst hz hcs
                          exact run_append_fits (m := 0) hs ht hu' hu hud (by simpa using hkc) q1 q4 (by cases base <;> simp [storeCells])
                        rcases asSl_of h2 with ⟨rfl, h3⟩ | ⟨id, off, k, cap, esz, rfl, h3⟩
                        · refine ⟨_, _, _, h3, fun φ ρ o w ho hr hvr => ?_⟩
                          rw [exec_call_operands] at hvr
                          obtain ⟨u1, us, q1, r1, hvr2⟩ := args_one hvr
                          obtain ⟨u2, us', rfl, r2, _⟩ := hvr2.uncons
                          refine exec_builtin ho q1 fun cb => ?_
                          have r1' := r1
                          simp only [VR] at r1
                          exact does_v (key φ w u1 u2 us' none 0 0 hr r2 r1 (Nat.le_refl _) _) ⟨φ, hr, Fr.refl _ _ _ _, r1'⟩
                        · obtain ⟨_, h4⟩ := wK_of h3
                          refine ⟨_, _, _, h4, fun φ ρ o w ho hr hvr => ?_⟩
                          rw [exec_call_operands] at hvr
                          obtain ⟨u1, us, q1, r1, hvr2⟩ := args_one hvr
                          obtain ⟨u2, us', rfl, r2, _⟩ := hvr2.uncons
                          refine exec_builtin ho q1 fun cb => ?_
                          have r1' := r1
                          simp only [VR] at r1
                          obtain ⟨b, base, room, a, cc, hφ, hev, hcc, _⟩ := r1
                          exact does_v (key φ w u1 u2 us' _ _ _ hr r2 hev hcc _) ⟨φ, hr, Fr.refl _ _ _ _, r1'⟩
                      | succ m =>
                        have h2' : asSl s (wK (Nat.ble (m + 1) 1000000) false) (fun _ _ _ _ _ => true) = true ∨ True := .inr trivial
                        rcases asSl_of h2 with ⟨rfl, h3⟩ | ⟨id, off, k, cap, esz, rfl, h3⟩
                        · obtain ⟨g1, h4⟩ := wK_of h3
                          have g1 := nble_of g1
                          have h5 := succK_of (setK_of h4)
                          refine ⟨_, _, _, h5, fun φ ρ o w ho hr hvr => ?_⟩
                          rw [exec_call_operands] at hvr
                          obtain ⟨u1, us, q1, r1, hvr2⟩ := args_one hvr
                          obtain ⟨u2, us', rfl, r2, _⟩ := hvr2.uncons
                          refine exec_builtin ho q1 fun cb => ?_
                          simp only [VR] at r1
                          subst r1
                          obtain ⟨p1, _, _⟩ := hsrc φ n w u2 hr r2
                          obtain ⟨_, p2, p3⟩ := hsrc φ n w.drew u2 hr.drew r2
                          obtain ⟨new, p4, p5⟩ := p3 (m + 1) (Nat.le_refl _)
                          rw [List.take_of_length_le (by omega)] at p5
                          obtain ⟨nc, rest, f1, f2, f3⟩ := run_append_grow (ty := o.type) (us := us') (k := 0) (m := m + 1) (cc := 0) (base := none) (old := #[]) hf ht hu' hu hud (by omega) (by simpa using g1) p1 (by simp [Builtin.firstCells]) p4
                          have := append_grown (e := e) (olds := []) (xs := xs) (k := 0) (m := m + 1) (old := #[]) (new := new) hr (by simp [VRs]) p5 (by simp) hxs (by simp) p2 f1 f2
                          simp only [Nat.zero_add, List.nil_append] at this f3
                          exact does_v f3 this
                        · obtain ⟨g0, h4⟩ := wK_of h3
                          rw [fNat_eq] at h4
                          obtain ⟨g1, h5⟩ := wK_of h4
                          obtain ⟨g2, h6⟩ := wK_of h5
                          obtain ⟨e', l, hg, h7⟩ := cellsK_of h6
                          obtain ⟨g3, h8⟩ := wK_of h7
                          obtain ⟨hle, h9⟩ := cutK_of h8
                          have h10 := appK_of h9
                          have g0 := nbeq_of g0
                          have g1 := nbeq_of g1
                          have g2 := nble_of g2
                          have g3 := nbeq_of g3
                          subst g0 g3
                          have grown : ∀ (φ : Phi) (w : World) (h' : Hp) (u2 : Value) (us' : List Value) (b base room cc : Nat) (ty : TypeId), HRel P φ h n w → HRel P φ h' n w → VR φ x u2 → φ id = some (b, base, room) → (cc ≠ 0 → off + cc * (sz + 1) ≤ room) → k ≤ cc → cc < k + (m + 1) → ∀ a, (cc ≠ 0 → a = (⟨b, base + off, none⟩ : Addr)) → ∃ nc w', (Builtin.append_ ts ty (Value.slice (some a) k cc :: u2 :: us').toArray).run P w = .ok (.slice (some ⟨w.heap.size, 0, none⟩) (k + (m + 1)) nc) w' ∧
                              After P φ h' n w (.sl n 0 (k + (m + 1)) none (sz + 1)) (PT.set (some (.cells e' ((l.drop off).take (k * (sz + 1)) ++ xs))) n h') n.nxt (.slice (some ⟨w.heap.size, 0, none⟩) (k + (m + 1)) nc) w' := by
                            intro φ w h' u2 us' b base room cc ty hr hr' r2 hφ hroom hkc hlt a ha
                            obtain ⟨p1, _, _⟩ := hsrc φ n w u2 hr r2
                            obtain ⟨_, p2, p3⟩ := hsrc φ n w.drew u2 hr.drew r2
                            obtain ⟨new, p4, p5⟩ := p3 (m + 1) (Nat.le_refl _)
                            rw [List.take_of_length_le (by omega)] at p5
                            obtain ⟨c0, cu, cf, e1, e2, e3, e4, e5⟩ := cells_at hr.drew hg hφ
                            have hold : (Builtin.firstCells (sz + 1) k (.slice (some a) k cc)).run P w.drew = .ok ((c0.toList.drop base).drop off |>.take (k * (sz + 1))).toArray w.drew := by
                              by_cases h0 : cc = 0
                              · have : k = 0 := by omega
                                subst this
                                simp [Builtin.firstCells, run_loadCells_zero]
                              · have := ha h0
                                subst this
                                exact run_loadCells_of (P := P) e1 (by omega)
                            obtain ⟨nc, rest, f1, f2, f3⟩ := run_append_grow (ty := ty) (us := us') hf ht hu' hu hud hlt g2 p1 hold p4
                            refine ⟨nc, _, f3, append_grown hr' (by simpa using VRs_cut e4 hle) p5 (by simp; omega) hxs (flat_take e5 _ _) p2 f1 f2⟩
                          rcases bK_of h10 with ⟨hq, h11⟩ | ⟨hq, h11⟩
                          · obtain ⟨_, _, hgw, h11⟩ := cellsWK_of h11
                            have h12 := succK_of (setK_of (setK_of h11))
                            have hgw : PT.get id h = some (.cells e' l) := hg.resolve_right fun hgr => by rw [hgr] at hgw; cases hgw
                            refine ⟨_, _, _, h12, fun φ ρ o w ho hr hvr => ?_⟩
                            rw [exec_call_operands] at hvr
                            obtain ⟨u1, us, q1, r1, hvr2⟩ := args_one hvr
                            obtain ⟨u2, us', rfl, r2, _⟩ := hvr2.uncons
                            refine exec_builtin ho q1 fun cb => ?_
                            simp only [VR] at r1
                            obtain ⟨b, base, room, a, cc, hφ, rfl, hcc, ha, hcap⟩ := r1
                            by_cases hfit : k + (m + 1) ≤ cc
                            · obtain ⟨rfl, hroom⟩ := ha (by omega)
                              obtain ⟨p1, p2, p3⟩ := hsrc φ n w u2 hr r2
                              obtain ⟨new, p4, p5⟩ := p3 (m + 1) (Nat.le_refl _)
                              rw [List.take_of_length_le (by omega)] at p5
                              obtain ⟨w', f1, f2⟩ := append_fits hr hgw hφ hs g1 hle hroom hfit p5 hxs p2
                              exact does_v (run_append_fits (us := us') hs ht hu' hu hud hfit p1 p4 f1) f2
                            · obtain ⟨nc, w', f1, φ', f2, f3, f4⟩ := grown φ w (PT.set none id h) u2 us' b base room cc o.type hr (hr.drop id) r2 hφ (fun h0 => (ha h0).2) hcc (by omega) a (fun h0 => (ha h0).1)
                              exact does_v f1 ⟨φ', f2, f3.of_drop (fun B hB => by rw [hgw] at hB; injection hB with hB; subst hB; rfl), f4⟩
                          · have h12 := succK_of (setK_of h11)
                            refine ⟨_, _, _, h12, fun φ ρ o w ho hr hvr => ?_⟩
                            rw [exec_call_operands] at hvr
                            obtain ⟨u1, us, q1, r1, hvr2⟩ := args_one hvr
                            obtain ⟨u2, us', rfl, r2, _⟩ := hvr2.uncons
                            refine exec_builtin ho q1 fun cb => ?_
                            simp only [VR] at r1
                            obtain ⟨b, base, room, a, cc, hφ, rfl, hcc, ha, hcap⟩ := r1
                            cases cap with
                            | none => cases hq
                            | some q =>
                              have hqc := hcap q rfl
                              subst hqc
                              have hlt : cc < k + (m + 1) := by
                                have hq' : Nat.ble (k + (m + 1)) cc = false := hq
                                apply Nat.lt_of_not_le
                                intro hle'
                                rw [Nat.ble_eq_true_of_le hle'] at hq'
                                cases hq'
                              obtain ⟨nc, w', f1, f2⟩ := grown φ w h u2 us' b base room cc o.type hr hr r2 hφ (fun h0 => (ha h0).2) hcc hlt a (fun h0 => (ha h0).1)
                              exact does_v f1 f2

end
end Go.Am
