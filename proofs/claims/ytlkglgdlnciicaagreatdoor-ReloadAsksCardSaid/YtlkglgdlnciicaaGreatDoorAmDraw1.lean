/- Regions that draw their order: what is known ahead. -/
import Derived.Test.YtlkglgdlnciicaaGreatDoorAmCode
import Derived.Orders
set_option linter.all false
namespace Go.Am
open Go

/-- a set of operations that whatever stands ahead of its members is in -/
def Closed (ops : Array Oper) (S : Nat → Prop) : Prop :=
  ∀ (j : Nat) (o : Oper), ops[j]? = some o → S j → ∀ e ∈ o.after.toList, Region.binds .any e = true → S e.on

def maskOf (acc : List Nat) (o : Oper) : Nat := o.after.toList.foldl (fun s e => match Region.binds .any e with
  | true => Nat.lor (Nat.lor s (2 ^ e.on)) (acc.getD e.on 0)
  | false => s) 0

theorem aheads_eq (L : List Oper) : aheads L = L.foldl (fun acc o => acc ++ [maskOf acc o]) [] := rfl

theorem mask_bit {acc : List Nat} {i : Nat} : ∀ (es : List Edge) (s : Nat), (es.foldl (fun s e => match Region.binds .any e with
    | true => Nat.lor (Nat.lor s (2 ^ e.on)) (acc.getD e.on 0)
    | false => s) s).testBit i = true → s.testBit i = true ∨ ∃ e ∈ es, Region.binds .any e = true ∧ (i = e.on ∨ (acc.getD e.on 0).testBit i = true)
  | [], s, h => .inl h
  | e :: es, s, h => by
    simp only [List.foldl_cons] at h
    rcases mask_bit es _ h with h1 | ⟨e', he, hb, hi⟩
    · cases hb : Region.binds .any e with
      | false => rw [hb] at h1; exact .inl h1
      | true =>
        rw [hb] at h1
        have h2 : ((s ||| 2 ^ e.on) ||| acc.getD e.on 0).testBit i = true := h1
        rw [Nat.testBit_or, Nat.testBit_or, Bool.or_eq_true, Bool.or_eq_true] at h2
        rcases h2 with (h3 | h3) | h3
        · exact .inl h3
        · rw [Nat.testBit_two_pow] at h3
          exact .inr ⟨e, by simp, hb, .inl (by simpa using (of_decide_eq_true h3).symm)⟩
        · exact .inr ⟨e, by simp, hb, .inr h3⟩
    · exact .inr ⟨e', by simp [he], hb, hi⟩

theorem aheads_go {ops : Array Oper} {S : Nat → Prop} (hS : Closed ops S) : ∀ (rest : List Oper) (acc : List Nat), ops.toList.drop acc.length = rest →
    (∀ j i, (acc.getD j 0).testBit i = true → S j → S i) → ∀ j i, ((rest.foldl (fun acc o => acc ++ [maskOf acc o]) acc).getD j 0).testBit i = true → S j → S i
  | [], acc, _, h => h
  | o :: rest, acc, hr, h => by
    simp only [List.foldl_cons]
    have ho : ops[acc.length]? = some o := by
      have : (ops.toList.drop acc.length)[0]? = some o := by rw [hr]; rfl
      rw [List.getElem?_drop] at this
      simpa using this
    refine aheads_go hS rest _ (by rw [List.length_append, List.length_singleton, ← List.drop_drop, hr]; rfl) fun j i hb hj => ?_
    rw [List.getD_eq_getElem?_getD, List.getElem?_append] at hb
    split at hb
    · exact h j i (by rw [List.getD_eq_getElem?_getD]; exact hb) hj
    · rename_i hlt
      by_cases hjl : j = acc.length
      · subst hjl
        simp only [Nat.sub_self, List.getElem?_cons_zero, Option.getD_some] at hb
        rcases mask_bit _ _ hb with h1 | ⟨e, he, hbe, hi⟩
        · simp at h1
        · have hon := hS _ o ho hj e he hbe
          rcases hi with rfl | hi
          · exact hon
          · exact h _ _ hi hon
      · have : ([maskOf acc o] : List Nat)[j - acc.length]? = none := by
          rw [List.getElem?_eq_none]
          simp
          omega
        rw [this] at hb
        simp at hb

theorem aheads_closed {ops : Array Oper} {S : Nat → Prop} (hS : Closed ops S) {j i : Nat} (h : ((aheads ops.toList).getD j 0).testBit i = true) (hj : S j) : S i :=
  aheads_go hS ops.toList [] rfl (by intro j i h; simp at h) j i h hj

/-! counting louds -/
theorem countIn_le {M : Nat} : ∀ (l : List Nat) (m : Nat), (∀ i x, l[i]? = some x → M.testBit x = true → i < m) → countIn M l ≤ m
  | [], _, _ => Nat.zero_le _
  | x :: l, m, h => by
    unfold countIn
    cases hb : M.testBit x with
    | true =>
      have h0 := h 0 x rfl hb
      obtain ⟨m, rfl⟩ : ∃ m', m = m' + 1 := ⟨m - 1, by omega⟩
      have := countIn_le l m fun i y hi hy => by have := h (i + 1) y (by simpa using hi) hy; omega
      simp only
      omega
    | false =>
      exact countIn_le l m fun i y hi hy => by have := h (i + 1) y (by simpa using hi) hy; omega

theorem notBehind_ge {ah : List Nat} {j : Nat} : ∀ (l : List Nat) (m : Nat), m ≤ l.length → (∀ i x, i < m → l[i]? = some x → (ah.getD x 0).testBit j = false) → m ≤ notBehind ah j l
  | [], m, h, _ => by simp at h; omega
  | x :: l, 0, _, _ => Nat.zero_le _
  | x :: l, m + 1, h, hb => by
    have := notBehind_ge l m (by simpa using h) fun i y hi hy => hb (i + 1) y (by omega) (by simpa using hy)
    unfold notBehind
    rw [hb 0 x (by omega) rfl]
    simp only
    omega

theorem notBehind_bit {ah : List Nat} {j : Nat} : ∀ (l : List Nat) (x : Nat), l[notBehind ah j l]? = some x → (ah.getD x 0).testBit j = true
  | [], x, h => by simp at h
  | y :: l, x, h => by
    unfold notBehind at h
    cases hb : (ah.getD y 0).testBit j with
    | true =>
      rw [hb] at h
      simp at h
      subst h
      exact hb
    | false =>
      rw [hb] at h
      simp only [List.getElem?_cons_succ] at h
      exact notBehind_bit l x h

theorem chain_of {ah : List Nat} : ∀ {l : List Nat}, loudsChain ah l = true → ∀ i a b, l[i]? = some a → l[i + 1]? = some b → (ah.getD b 0).testBit a = true
  | [], _, i, a, b, h, _ => by simp at h
  | [x], _, i, a, b, _, h => by simp at h
  | x :: y :: r, hc, 0, a, b, h, h' => by
    simp only [loudsChain, Bool.and_eq_true] at hc
    simp at h h'
    subst h h'
    exact hc.1
  | x :: y :: r, hc, i + 1, a, b, h, h' => by
    simp only [loudsChain, Bool.and_eq_true] at hc
    exact chain_of hc.2 i a b (by simpa using h) (by simpa using h')

section
variable {P : Program}

/-- whether an operation is loud -/
noncomputable def loudAt (P : Program) (ops : Array Oper) (j : Nat) : Prop := ∃ o, ops[j]? = some o ∧ (okC P o.op).isLoud = true

/-- how many louds stand ahead of place j in the text -/
noncomputable def before (P : Program) : List Oper → Nat → Nat
  | [], _ => 0
  | _ :: _, 0 => 0
  | o :: os, j + 1 => (match (okC P o.op).isLoud with | true => 1 | false => 0) + before P os j

theorem louds_get : ∀ (L : List Oper) (k j : Nat) (o : Oper), L[j]? = some o → (okC P o.op).isLoud = true → (louds P L k)[before P L j]? = some (k + j)
  | [], _, _, _, h, _ => by simp at h
  | x :: L, k, 0, o, h, hl => by
    simp at h
    subst h
    simp [louds, hl, before]
  | x :: L, k, j + 1, o, h, hl => by
    have ih := louds_get L (k + 1) j o (by simpa using h) hl
    simp only [louds, before]
    cases hx : (okC P x.op).isLoud with
    | true =>
      simp only
      rw [Nat.add_comm 1, List.getElem?_cons_succ, ih]
      congr 1
      omega
    | false =>
      simp only [Nat.zero_add]
      rw [ih]
      congr 1
      omega

theorem louds_mem : ∀ (L : List Oper) (k i x : Nat), (louds P L k)[i]? = some x → ∃ j o, x = k + j ∧ L[j]? = some o ∧ (okC P o.op).isLoud = true ∧ before P L j = i
  | [], _, _, _, h => by simp [louds] at h
  | y :: L, k, i, x, h => by
    simp only [louds] at h
    cases hy : (okC P y.op).isLoud with
    | true =>
      rw [hy] at h
      cases i with
      | zero =>
        simp at h
        exact ⟨0, y, by omega, rfl, hy, rfl⟩
      | succ i =>
        obtain ⟨j, o, e1, e2, e3, e4⟩ := louds_mem L (k + 1) i x (by simpa using h)
        refine ⟨j + 1, o, by omega, by simpa using e2, e3, ?_⟩
        simp only [before, hy]
        omega
    | false =>
      rw [hy] at h
      obtain ⟨j, o, e1, e2, e3, e4⟩ := louds_mem L (k + 1) i x h
      refine ⟨j + 1, o, by omega, by simpa using e2, e3, ?_⟩
      simp only [before, hy]
      omega

theorem before_succ : ∀ (L : List Oper) (j : Nat) (o : Oper), L[j]? = some o → before P L (j + 1) = before P L j + (match (okC P o.op).isLoud with | true => 1 | false => 0)
  | [], _, _, h => by simp at h
  | x :: L, 0, o, h => by
    simp at h
    subst h
    cases L <;> simp [before]
  | x :: L, j + 1, o, h => by
    have := before_succ L j o (by simpa using h)
    simp only [before] at this ⊢
    omega

theorem before_mono (L : List Oper) : ∀ (i j : Nat), i ≤ j → j ≤ L.length → before P L i ≤ before P L j
  | i, 0, h, _ => by rw [Nat.le_zero.1 h]; exact Nat.le_refl _
  | i, j + 1, h, hj => by
    by_cases hij : i = j + 1
    · rw [hij]; exact Nat.le_refl _
    · obtain ⟨o, ho⟩ : ∃ o, L[j]? = some o := ⟨_, List.getElem?_eq_getElem (by omega)⟩
      rw [before_succ L j o ho]
      exact Nat.le_trans (before_mono L i j (by omega) (by omega)) (Nat.le_add_right _ _)

end
end Go.Am
