/- Operations that act: copy, clear, unsafe.String. -/
import Derived.Test.YtlkglgdlnciicaaGreatDoorAmLoud3
set_option linter.all false
namespace Go.Am
open Go

section
variable {P : Program}

theorem VR_goInt (φ : Phi) (k : Nat) : VR φ (.i .i64 (.ofNat k)) (goInt k) := by simp only [VR, goInt]; rfl

theorem copy_ok (args : Array Operand) (ts : Array TypeId) : LoudOk P (.call ⟨.builtin .copy, args, ts⟩) (loudC P (.call ⟨.builtin .copy, args, ts⟩)) := by
  show LoudOk P _ (copyC P ts)
  unfold copyC
  cases ht : ts[0]? with
  | none => exact loudBad_ok _
  | some t =>
    simp only
    cases he : elemT P t with
    | none => exact loudBad_ok _
    | some e =>
      simp only
      cases hs : szT P e with
      | none => exact loudBad_ok _
      | some sz =>
        have hu := elemT_of he
        intro call _ vs h n c hk
        obtain ⟨d, x, r, rfl, h1⟩ := duo_of hk
        obtain ⟨m, xs, h2, hxs, hsrc⟩ := srcK_of h1
        have run : ∀ (w w' : World) (ty : TypeId) (base : Option Addr) (q cc : Nat) (cx : Value) (us : List Value) (arr : Array Value), (Builtin.lenOf cx).run P w = .ok m w → (Builtin.firstCells sz (Nat.min m q) cx).run P w = .ok arr w →
            (match base with | some a => storeCells a arr.toList | none => pure ()).run P w = .ok () w' → (Builtin.copy_ ts ty (Value.slice base q cc :: cx :: us).toArray).run P w = .ok (goInt (Nat.min m q)) w' := by
          intro w w' ty base q cc cx us arr q1 q2 q3
          simp only [Builtin.copy_, ht, List.getElem?_toArray, List.getElem?_cons_zero, List.getElem?_cons_succ, Sem.run_bind, run_underlying hu, Result.andThen_ok, q1, run_sizeOf_of hs, q2]
          cases base with
          | none =>
            simp at q3
            subst q3
            simp
          | some a => simp [q3]
        rcases asSl_of h2 with ⟨rfl, h3⟩ | ⟨id, off, q, cap, esz, rfl, h3⟩
        · refine ⟨_, _, _, h3, fun φ ρ o w ho hr hvr => ?_⟩
          rw [exec_call_operands] at hvr
          obtain ⟨u1, us, q1, r1, hvr2⟩ := args_one hvr
          obtain ⟨u2, us', rfl, r2, _⟩ := hvr2.uncons
          refine exec_builtin ho q1 fun cb => ?_
          simp only [VR] at r1
          subst r1
          obtain ⟨p1, p2, p3⟩ := hsrc φ n w u2 hr r2
          obtain ⟨arr, p4, p5⟩ := p3 0 (Nat.zero_le _)
          have := run w w o.type none 0 0 u2 us' arr p1 (by simpa using p4) (by simp)
          refine does_v this ⟨φ, hr, Fr.refl _ _ _ _, ?_⟩
          have h0 : Nat.min m 0 = 0 := Nat.min_zero m
          rw [h0]
          exact VR_goInt φ 0
        · obtain ⟨g1, h4⟩ := wK_of h3
          rw [fNat_eq] at h4
          obtain ⟨g2, h5⟩ := takeK_of h4
          obtain ⟨e', l, hg, hle, h6⟩ := storeK_of h5
          have g1 := nbeq_of g1
          subst g1
          refine ⟨_, _, _, h6, fun φ ρ o w ho hr hvr => ?_⟩
          rw [exec_call_operands] at hvr
          obtain ⟨u1, us, q1, r1, hvr2⟩ := args_one hvr
          obtain ⟨u2, us', rfl, r2, _⟩ := hvr2.uncons
          refine exec_builtin ho q1 fun cb => ?_
          simp only [VR] at r1
          obtain ⟨b, base, room, a, cc, hφ, rfl, hcc, ha, _⟩ := r1
          obtain ⟨p1, p2, p3⟩ := hsrc φ n w u2 hr r2
          obtain ⟨arr, p4, p5⟩ := p3 (Nat.min m q) (Nat.min_le_left _ _)
          obtain ⟨w', f1, f2, f3⟩ := run_store_cells (off := off) hr hg hφ hle p5 (fun y hy => p2 y (List.mem_of_mem_take hy))
          have hst : storeCells a arr.toList = storeCells ⟨b, base + off, none⟩ arr.toList := by
            by_cases h0 : cc = 0
            · have h1 : Nat.min m q = 0 := by
                have : q = 0 := by omega
                rw [this]; exact Nat.min_zero m
              have : arr.toList = [] := by
                have := p5.length
                rw [h1] at this
                simp at this
                simp [Array.eq_empty_of_size_eq_zero this.symm]
              rw [this]
              rfl
            · rw [(ha h0).1]
          have := run w w' o.type (some a) q cc u2 us' arr p1 p4 (by simp only [hst]; exact f1)
          exact does_v this ⟨φ, f2, f3, VR_goInt φ _⟩

theorem clear_ok (args : Array Operand) (ts : Array TypeId) : LoudOk P (.call ⟨.builtin .clear, args, ts⟩) (loudC P (.call ⟨.builtin .clear, args, ts⟩)) := by
  show LoudOk P _ (clearC P ts)
  unfold clearC
  cases ht : ts[0]? with
  | none => exact loudBad_ok _
  | some t =>
    simp only
    cases hu : P.underlying t with
    | none => exact loudBad_ok _
    | some D =>
      cases D <;> simp only <;> (try exact loudBad_ok _)
      case map kt e =>
        intro call _ vs h n c hk
        obtain ⟨x, r, rfl, h1⟩ := one_of hk
        rcases asMp_of h1 with ⟨rfl, h2⟩ | ⟨id, rfl, h2⟩
        · refine ⟨_, _, _, h2, fun φ ρ o w ho hr hvr => ?_⟩
          rw [exec_call_operands] at hvr
          obtain ⟨u1, us, q1, r1, _⟩ := args_one hvr
          refine exec_builtin ho q1 fun cb => ?_
          simp only [VR] at r1
          subst r1
          refine does_v (cv := undef) (w' := w) ?_ ⟨φ, hr, Fr.refl _ _ _ _, VR_undef φ⟩
          simp [Builtin.clear_, ht, run_underlying hu]
          rfl
        · obtain ⟨es, hg, h3⟩ := mapK_of h2
          have h4 := setK_of h3
          refine ⟨_, _, _, h4, fun φ ρ o w ho hr hvr => ?_⟩
          rw [exec_call_operands] at hvr
          obtain ⟨u1, us, q1, r1, _⟩ := args_one hvr
          refine exec_builtin ho q1 fun cb => ?_
          simp only [VR] at r1
          obtain ⟨b, base, room, hφ, rfl⟩ := r1
          obtain ⟨mc, clock, hb, her⟩ := map_at hr hg hφ
          obtain ⟨a1, a2⟩ := hr.map (c' := #[]) (clock' := clock) (es' := []) hg hφ hb (by simp [ERs])
          refine does_v (cv := undef) ?_ ⟨φ, a1, a2, VR_undef φ⟩
          simp [Builtin.clear_, ht, run_underlying hu, run_gmap hb, run_smap _ hb]
          rfl
      case slice e =>
        cases hs : szT P e with
        | none => exact loudBad_ok _
        | some sz0 =>
          cases sz0 with
          | zero => exact loudBad_ok _
          | succ sz =>
            intro call _ vs h n c hk
            obtain ⟨x, r, rfl, h1⟩ := one_of hk
            rcases asSl_of h1 with ⟨rfl, h2⟩ | ⟨id, off, m, cap, esz, rfl, h2⟩
            · refine ⟨_, _, _, h2, fun φ ρ o w ho hr hvr => ?_⟩
              rw [exec_call_operands] at hvr
              obtain ⟨u1, us, q1, r1, _⟩ := args_one hvr
              refine exec_builtin ho q1 fun cb => ?_
              simp only [VR] at r1
              subst r1
              refine does_v (cv := undef) (w' := w) ?_ ⟨φ, hr, Fr.refl _ _ _ _, VR_undef φ⟩
              simp [Builtin.clear_, ht, run_underlying hu]
              rfl
            · cases m with
              | zero =>
                refine ⟨_, _, _, h2, fun φ ρ o w ho hr hvr => ?_⟩
                rw [exec_call_operands] at hvr
                obtain ⟨u1, us, q1, r1, _⟩ := args_one hvr
                refine exec_builtin ho q1 fun cb => ?_
                simp only [VR] at r1
                obtain ⟨b, base, room, a, cc, hφ, rfl, _⟩ := r1
                refine does_v (cv := undef) (w' := w) ?_ ⟨φ, hr, Fr.refl _ _ _ _, VR_undef φ⟩
                simp [Builtin.clear_, ht, run_underlying hu]
                rfl
              | succ m =>
                have h2' : wK (Nat.beq esz (sz + 1)) (oK (zerosT P e (m + 1) (sz + 1)) fun zs => storeK h id off zs fun h' => c undefA h' n) = true := h2
                obtain ⟨g1, h3⟩ := wK_of h2'
                obtain ⟨zs, hz, h4⟩ := oK_of h3
                obtain ⟨e', l, hg, hle, h5⟩ := storeK_of h4
                refine ⟨_, _, _, h5, fun φ ρ o w ho hr hvr => ?_⟩
                rw [exec_call_operands] at hvr
                obtain ⟨u1, us, q1, r1, _⟩ := args_one hvr
                refine exec_builtin ho q1 fun cb => ?_
                simp only [VR] at r1
                obtain ⟨b, base, room, a, cc, hφ, rfl, hcc, ha, _⟩ := r1
                obtain ⟨rfl, _⟩ := ha (by omega)
                obtain ⟨fz, z, ez, rz⟩ := zeros_of hz φ w
                rcases ez with ⟨h0, _⟩ | ⟨h0, v, ev, rfl, hv⟩
                · exact absurd h0 (by simp)
                · obtain ⟨w', f1, f2, f3⟩ := run_store_cells (off := off) hr hg hφ hle rz fz
                  refine does_v (cv := undef) (w' := w') ?_ ⟨φ, f2, f3, VR_undef φ⟩
                  simp only [Builtin.clear_, ht, List.getElem?_toArray, List.getElem?_cons_zero, Sem.run_bind, run_underlying hu, Result.andThen_ok, ev, Builtin.zeroCells, hv]
                  rw [hv] at f1
                  rw [f1]
                  rfl

theorem lies_bytes {u : TypeId} (hc : P.cellsOf u = 1) {cells off n : Nat} (h : off + n ≤ cells) : liesAt P P.depth u (cells / P.cellsOf u) off u n = true := by
  have hd : P.depth = (2 * (P.types.size + Made.depth) + 1) + 1 := rfl
  rw [hc, Nat.div_one]
  generalize hD : 2 * (P.types.size + Made.depth) + 1 = D at hd
  unfold liesAt
  rw [hd]
  simp only
  have : rowAt P (fun x => sameLayout P (D + 1) x u) (D + 1) u cells off n = true := by
    unfold rowAt
    rw [hc]
    simp [Nat.mod_one, h, sameLayout_self]
  simp [this]

theorem freeze_heap (w : World) (a : Addr) (n k : Nat) (h : k ≠ a.block) : (w.freeze a n).heap[k]? = w.heap[k]? := by
  unfold World.freeze
  split
  · rfl
  · simp [Array.getElem?_modify, Ne.symm h]

theorem freeze_more (w : World) (a : Addr) (n : Nat) : (w.freeze a n).heap.size = w.heap.size ∧ (w.freeze a n).tape = w.tape ∧ (w.freeze a n).os = w.os ∧ (w.freeze a n).output = w.output := by
  unfold World.freeze
  split <;> simp

theorem freeze_drop {φ : Phi} {h : Hp} {n : Pos} {w : World} {id : Pos} {B : ABlk} (hr : HRel P φ h n w) (hg : PT.get id h = some B) (hro : B.isRo = false) {b base room : Nat} (hφ : φ id = some (b, base, room)) {a : Addr} (ha : a.block = b) (m : Nat) :
    HRel P φ (PT.set none id h) n (w.freeze a m) ∧ Fr φ h n w φ (PT.set none id h) n (w.freeze a m) := by
  obtain ⟨f1, f2, f3, f4⟩ := freeze_more w a m
  refine ⟨(hr.drop id).world (Nat.le_of_eq f1.symm) fun i x hi e => freeze_heap _ _ _ _ fun hx => ?_, fun _ _ e => e, Nat.le_refl _, Nat.le_of_eq f1.symm, fun k hk hn => freeze_heap _ _ _ _ fun hx => ?_, fun i x hi e => .inr ⟨i, x, (isSome_set_none hi).2, e, rfl⟩, f2, f3, f4, fun _ _ e => .inl e, fun i C x hi hC e => ?_⟩
  · obtain ⟨C, hi⟩ := Option.isSome_iff_exists.1 hi
    have := get_set_none hi
    exact this.1 (hr.inj i id _ _ x _ this.2 hg (by rw [hro, Bool.and_false]) e hφ (by rw [hx, ha]))
  · exact hn id _ (by simp [hg]) hφ (by rw [hx, ha])
  · have hne : i ≠ id := fun g => by subst g; rw [hg] at hi; injection hi with hi; subst hi; rw [hro] at hC; cases hC
    exact ⟨by rw [get_set_ne _ _ _ _ (Ne.symm hne)]; exact hi, freeze_heap _ _ _ _ fun hx => hne (hr.inj i id _ _ x _ hi hg (by rw [hro, Bool.and_false]) e hφ (by rw [hx, ha]))⟩

theorem unsafeString_def (ts : Array TypeId) (ty : TypeId) (p : Option Addr) (v : Value) : Builtin.unsafeString_ ts ty [Value.pointer p, v].toArray = (do
    let n ← asInt v
    let some pt := ts[0]? | stuck "unsafe.String: no argument types"
    if n < 0 then runtimePanic (.error "unsafe.String: len out of range")
    if n > IntKind.i64.max then unsupported (.unsafePointer "String: a length above the largest int")
    match p with
    | none =>
      if n = 0 then pure (.string .empty)
      else runtimePanic (.error "unsafe.String: ptr is nil and len is not zero")
    | some a =>
      if n = 0 then pure (.string .empty)
      else if ← variablesAt a (← elemOf pt) n.toNat then do
        let s ← loadBytes a .empty n.toNat
        freeze a n.toNat
        pure (.string s)
      else unsupported (.unsafePointer "String: not so many bytes at ptr")) := rfl

theorem unsafeString_ok (args : Array Operand) (ts : Array TypeId) : LoudOk P (.call ⟨.builtin .unsafeString, args, ts⟩) (loudC P (.call ⟨.builtin .unsafeString, args, ts⟩)) := by
  show LoudOk P _ (unsafeStringC P args.size ts)
  unfold unsafeStringC
  cases hna : Nat.beq args.size 2 with
  | false => exact loudBad_ok _
  | true =>
    cases ht : ts[0]? with
    | none => exact loudBad_ok _
    | some t =>
      simp only
      cases hu : P.underlying t with
      | none => exact loudBad_ok _
      | some D =>
        cases D <;> simp only <;> (try exact loudBad_ok _)
        case pointer u =>
          cases hd : P.underlying u with
          | none => exact loudBad_ok _
          | some E =>
            cases E <;> (try exact loudBad_ok _)
            rename_i j
            cases j <;> (try exact loudBad_ok _)
            cases hs : szT P u with
            | none => exact loudBad_ok _
            | some s =>
              cases s with
              | zero => exact loudBad_ok _
              | succ s =>
                cases s with
                | succ s => exact loudBad_ok _
                | zero =>
                  have two : ∀ {ρ : Operand → Value} {u1 u2 : Value} {us : List Value}, args.map ρ = (u1 :: u2 :: us).toArray → us = [] := by
                    intro ρ u1 u2 us hm
                    have := congrArg Array.size hm
                    have hna := nbeq_of hna
                    simp at this
                    rw [hna] at this
                    cases us with
                    | nil => rfl
                    | cons _ _ => simp at this
                  have hmax : IntKind.i64.max = 9223372036854775807 := rfl
                  intro call _ vs h n c hk
                  obtain ⟨p, y, r, rfl, h1⟩ := duo_of hk
                  obtain ⟨ky, m, rfl, h2⟩ := asI_of h1
                  cases m with
                  | negSucc _ => cases h2
                  | ofNat m =>
                    cases m with
                    | zero =>
                      have h2' : ptrK p (c (.s []) h n) = true := h2
                      have hp : (p = .nilp ∨ ∃ id off, p = .ptr id off) ∧ c (.s []) h n = true := by
                        cases p <;> first | (cases h2'; done) | exact ⟨.inl rfl, h2'⟩ | exact ⟨.inr ⟨_, _, rfl⟩, h2'⟩
                      refine ⟨_, _, _, hp.2, fun φ ρ o w ho hr hvr => ?_⟩
                      rw [exec_call_operands] at hvr
                      obtain ⟨u1, us, q1, r1, hvr2⟩ := args_one hvr
                      obtain ⟨u2, us', rfl, r2, _⟩ := hvr2.uncons
                      have := two q1
                      subst this
                      refine exec_builtin ho q1 fun cb => ?_
                      simp only [VR] at r2
                      subst r2
                      refine does_v (cv := .string .empty) (w' := w) ?_ ⟨φ, hr, Fr.refl _ _ _ _, by simp only [VR]; exact ⟨_, rfl, bytes_empty⟩⟩
                      rcases hp.1 with rfl | ⟨id, off, rfl⟩
                      · simp only [VR] at r1
                        subst r1
                        simp only [unsafeString_def]
                        simp [asInt, asIntOf, ht, hmax]
                      · simp only [VR] at r1
                        obtain ⟨b, base, room, hφ, rfl⟩ := r1
                        simp only [unsafeString_def]
                        simp [asInt, asIntOf, ht, hmax]
                    | succ m =>
                      have h2' : wK (Nat.ble m 1000000) (asP p fun id off => cellsWK h id fun e l => wK (Nat.beq e u) (cutK l off (m + 1) fun cs => natsK cs fun r => PT.setK id none h fun h' => c (.s r) h' n)) = true := h2
                      obtain ⟨g0, h3⟩ := wK_of h2'
                      obtain ⟨id, off, rfl, h4⟩ := asP_of h3
                      obtain ⟨e, l, hg, h5⟩ := cellsWK_of h4
                      obtain ⟨g1, h6⟩ := wK_of h5
                      obtain ⟨hle, h7⟩ := cutK_of h6
                      obtain ⟨bs, h8, hbs, h255⟩ := natsK_of h7
                      have h9 := setK_of h8
                      have g0 := nble_of g0
                      have g1 := nbeq_of g1
                      subst g1
                      refine ⟨_, _, _, h9, fun φ ρ o w ho hr hvr => ?_⟩
                      rw [exec_call_operands] at hvr
                      obtain ⟨u1, us, q1, r1, hvr2⟩ := args_one hvr
                      obtain ⟨u2, us', rfl, r2, _⟩ := hvr2.uncons
                      have := two q1
                      subst this
                      refine exec_builtin ho q1 fun cb => ?_
                      simp only [VR] at r1 r2
                      subst r2
                      obtain ⟨b, base, room, hφ, rfl⟩ := r1
                      obtain ⟨cc, e1, e2, e3, e4, e5, _⟩ := cells_atW hr hg hφ
                      have hcut := VRs_cut e4 hle
                      rw [hbs] at hcut
                      have hcut := VRs_bytes hcut
                      have hbl : bs.length = m + 1 := by
                        have := congrArg List.length hbs
                        simp at this
                        omega
                      have hcell : ∀ j x, (bs.map (fun n => UInt8.ofNat n))[j]? = some x → w.cell? ((⟨b, base + off, none⟩ : Addr).add j) = some (.int .u8 x.toNat) := by
                        intro j x hj
                        rw [addr_add, cell_of_row w b _ cc e (0, 0) e1]
                        rw [List.getElem?_map, Option.map_eq_some_iff] at hj
                        obtain ⟨v, hv, rfl⟩ := hj
                        have h1 : (((cc.toList.drop base).drop off).take (m + 1))[j]? = some (.int .u8 (.ofNat v)) := by
                          rw [hcut, List.getElem?_map, hv]
                          rfl
                        have hjl : j < m + 1 := by rw [← hbl]; exact (List.getElem?_eq_some_iff.1 hv).1
                        rw [List.getElem?_take, if_pos hjl, List.getElem?_drop, List.getElem?_drop] at h1
                        have hv255 := h255 v (List.mem_of_getElem? hv)
                        rw [← Array.getElem?_toList]
                        rw [show base + off + j = base + (off + j) from by omega, h1]
                        have : (UInt8.ofNat v).toNat = v := by simp; omega
                        rw [this]
                        rfl
                      have hlb := Lib.run_loadBytes (P := P) w (bs.map (fun n => UInt8.ofNat n)) ⟨b, base + off, none⟩ .empty hcell
                      rw [List.length_map, hbl] at hlb
                      have hlies := lies_bytes (P := P) (u := e) (by
                        unfold szT at hs
                        unfold Program.cellsOf
                        split at hs
                        · rename_i i hi
                          simp at hs
                          simp [hi, hs]
                        · cases hs) (show (base + off) + (m + 1) ≤ cc.size by omega)
                      obtain ⟨a1, a2⟩ := freeze_drop (a := ⟨b, base + off, none⟩) hr hg rfl hφ rfl (m + 1)
                      refine does_v (cv := .string ⟨(bs.map (fun n => UInt8.ofNat n)).toArray⟩) ?_ ⟨φ, a1, a2, ?_⟩
                      · have hn1 : ¬ ((9223372036854775807 : Int) < (m : Int) + 1) := by omega
                        have hn2 : ¬ ((m : Int) + 1 < 0) := by omega
                        have hn3 : ¬ ((m : Int) + 1 = 0) := by omega
                        have hn4 : ((m : Int) + 1).toNat = m + 1 := by omega
                        simp only [unsafeString_def]
                        simp [asInt, asIntOf, ht, hmax, hn1, hn2, hn3, hn4, variablesAt, shape_at e1, elemOf, run_underlying hu, hlies, hlb]
                      · simp only [VR]
                        refine ⟨_, rfl, ?_⟩
                        simp only [bytesOfBA, List.map_map]
                        conv => rhs; rw [← List.map_id bs]
                        apply List.map_congr_left
                        intro v hv
                        have := h255 v hv
                        simp
                        omega

end
end Go.Am
