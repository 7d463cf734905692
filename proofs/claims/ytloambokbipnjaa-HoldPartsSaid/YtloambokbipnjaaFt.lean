/- Regions whose order is drawn: the lists of pushes. By this session. -/
import Derived.Test.YtloambokbipnjaaFs
set_option linter.unusedVariables false
set_option linter.unusedSimpArgs false
namespace Go.Fw

theorem get_append : ∀ (a b : Slots) (t : Nat), get (a ++ b) t = if t ∈ a.map Prod.fst then get a t else get b t
  | [], b, t => by simp [get]
  | (j, v) :: a, b, t => by
    rw [List.cons_append, get_cons, get_cons, get_append a b t]
    by_cases h : j = t
    · simp [h]
    · simp only [h, if_false, List.map_cons, List.mem_cons]
      have : ¬ t = j := fun h' => h h'.symm
      simp only [this, false_or]
theorem lk_append : ∀ (a b : Heap) (t : Nat), lk (a ++ b) t = if t ∈ a.map Prod.fst then lk a t else lk b t
  | [], b, t => by simp [lk]
  | (j, v) :: a, b, t => by
    rw [List.cons_append, lk_cons, lk_cons, lk_append a b t]
    by_cases h : j = t
    · simp [h]
    · simp only [h, if_false, List.map_cons, List.mem_cons]
      have : ¬ t = j := fun h' => h h'.symm
      simp only [this, false_or]
theorem lk_mem : ∀ {a : Heap} {t : Nat}, t ∈ a.map Prod.fst → (t, lk a t) ∈ a
  | (j, v) :: a, t, h => by
    rw [lk_cons]
    by_cases hj : j = t
    · subst hj; simp
    · rw [if_neg hj]
      simp only [List.map_cons, List.mem_cons] at h
      exact List.mem_cons_of_mem _ (lk_mem (h.resolve_left fun h' => hj h'.symm))
theorem lk_none : ∀ {a : Heap} {t : Nat}, t ∉ a.map Prod.fst → lk a t = .dead
  | [], t, h => rfl
  | (j, v) :: a, t, h => by
    simp only [List.map_cons, List.mem_cons, not_or] at h
    rw [lk_cons, if_neg (fun h' => h.1 h'.symm)]
    exact lk_none h.2
theorem keysBif {α : Type} (b : Bool) (l : List (Nat × α)) (t : Nat) : t ∈ (bif b then l else []).map Prod.fst ↔ b = true ∧ t ∈ l.map Prod.fst := by
  cases b <;> simp

theorem selS_keys {S : Nat → Bool} {t : Nat} : ∀ {R : List Rc} {k : Nat}, t ∈ (selS S k R).map Prod.fst ↔ ∃ j r, R[j]? = some r ∧ S (k + j) = true ∧ t ∈ r.s.map Prod.fst
  | [], k => by simp [selS]
  | r :: rs, k => by
    rw [selS, List.map_append, List.mem_append, selS_keys, keysBif]
    constructor
    · rintro (⟨j, q, h1, h2, h3⟩ | ⟨h1, h2⟩)
      · exact ⟨j + 1, q, by simpa using h1, by rw [← h2]; congr 1; omega, h3⟩
      · exact ⟨0, r, rfl, h1, h2⟩
    · rintro ⟨j, q, h1, h2, h3⟩
      cases j with
      | zero => simp only [List.getElem?_cons_zero, Option.some.injEq] at h1; subst h1; exact .inr ⟨h2, h3⟩
      | succ j => exact .inl ⟨j, q, by simpa using h1, by rw [← h2]; congr 1; omega, h3⟩
theorem selH_keys {S : Nat → Bool} {t : Nat} : ∀ {R : List Rc} {k : Nat}, t ∈ (selH S k R).map Prod.fst ↔ ∃ j r, R[j]? = some r ∧ S (k + j) = true ∧ t ∈ r.p.map Prod.fst
  | [], k => by simp [selH]
  | r :: rs, k => by
    rw [selH, List.map_append, List.mem_append, selH_keys, keysBif]
    constructor
    · rintro (⟨j, q, h1, h2, h3⟩ | ⟨h1, h2⟩)
      · exact ⟨j + 1, q, by simpa using h1, by rw [← h2]; congr 1; omega, h3⟩
      · exact ⟨0, r, rfl, h1, h2⟩
    · rintro ⟨j, q, h1, h2, h3⟩
      cases j with
      | zero => simp only [List.getElem?_cons_zero, Option.some.injEq] at h1; subst h1; exact .inr ⟨h2, h3⟩
      | succ j => exact .inl ⟨j, q, by simpa using h1, by rw [← h2]; congr 1; omega, h3⟩
theorem selH_last {S : Nat → Bool} {t : Nat} : ∀ {R : List Rc} {k j : Nat} {r : Rc}, R[j]? = some r → S (k + j) = true → t ∈ r.p.map Prod.fst →
    (∀ (i : Nat) (q : Rc), j < i → R[i]? = some q → S (k + i) = true → t ∉ q.p.map Prod.fst) → lk (selH S k R) t = lk r.p t
  | [], k, j, r, h, _, _, _ => by simp at h
  | q :: rs, k, j, r, h, hS, hk, hl => by
    rw [selH, lk_append]
    cases j with
    | zero =>
      simp only [List.getElem?_cons_zero, Option.some.injEq] at h
      subst h
      rw [if_neg]
      · have : S k = true := hS
        rw [this]; rfl
      · rw [selH_keys]
        rintro ⟨i, q', h1, h2, h3⟩
        exact hl (i + 1) q' (by omega) (by simpa using h1) (by rw [← h2]; congr 1; omega) h3
    | succ j =>
      have h' : rs[j]? = some r := by simpa using h
      have hS' : S (k + 1 + j) = true := by rw [← hS]; congr 1; omega
      rw [if_pos (selH_keys.2 ⟨j, r, h', hS', hk⟩)]
      exact selH_last h' hS' hk fun i q' h1 h2 h3 => hl (i + 1) q' (by omega) (by simpa using h2) (by rw [← h3]; congr 1; omega)
theorem selS_last {S : Nat → Bool} {t : Nat} : ∀ {R : List Rc} {k j : Nat} {r : Rc}, R[j]? = some r → S (k + j) = true → t ∈ r.s.map Prod.fst →
    (∀ (i : Nat) (q : Rc), j < i → R[i]? = some q → S (k + i) = true → t ∉ q.s.map Prod.fst) → get (selS S k R) t = get r.s t
  | [], k, j, r, h, _, _, _ => by simp at h
  | q :: rs, k, j, r, h, hS, hk, hl => by
    rw [selS, get_append]
    cases j with
    | zero =>
      simp only [List.getElem?_cons_zero, Option.some.injEq] at h
      subst h
      rw [if_neg]
      · have : S k = true := hS
        rw [this]; rfl
      · rw [selS_keys]
        rintro ⟨i, q', h1, h2, h3⟩
        exact hl (i + 1) q' (by omega) (by simpa using h1) (by rw [← h2]; congr 1; omega) h3
    | succ j =>
      have h' : rs[j]? = some r := by simpa using h
      have hS' : S (k + 1 + j) = true := by rw [← hS]; congr 1; omega
      rw [if_pos (selS_keys.2 ⟨j, r, h', hS', hk⟩)]
      exact selS_last h' hS' hk fun i q' h1 h2 h3 => hl (i + 1) q' (by omega) (by simpa using h2) (by rw [← h3]; congr 1; omega)
theorem selH_some {S : Nat → Bool} {t : Nat} : ∀ {R : List Rc} {k : Nat}, t ∈ (selH S k R).map Prod.fst → ∃ j r, R[j]? = some r ∧ S (k + j) = true ∧ t ∈ r.p.map Prod.fst ∧ lk (selH S k R) t = lk r.p t
  | [], k, h => by simp [selH] at h
  | r :: rs, k, h => by
    by_cases hi : t ∈ (selH S (k + 1) rs).map Prod.fst
    · obtain ⟨j, q, h1, h2, h3, h4⟩ := selH_some hi
      exact ⟨j + 1, q, by simpa using h1, by rw [← h2]; congr 1; omega, h3, by rw [selH, lk_append, if_pos hi]; exact h4⟩
    · rw [selH, List.map_append, List.mem_append, keysBif] at h
      obtain ⟨h1, h2⟩ := h.resolve_left hi
      exact ⟨0, r, rfl, h1, h2, by rw [selH, lk_append, if_neg hi, h1]; rfl⟩
theorem selH_congr {S T : Nat → Bool} {t : Nat} : ∀ {R : List Rc} {k : Nat} {h h' : Heap}, (∀ j r, R[j]? = some r → S (k + j) ≠ T (k + j) → t ∉ r.p.map Prod.fst) → lk h t = lk h' t → lk (selH S k R ++ h) t = lk (selH T k R ++ h') t
  | [], k, h, h', _, hh => hh
  | r :: rs, k, h, h', hST, hh => by
    rw [selH, selH, List.append_assoc, List.append_assoc]
    refine selH_congr (fun j q h1 h2 => hST (j + 1) q (by simpa using h1) (by rwa [show k + (j + 1) = k + 1 + j by omega])) ?_
    rw [lk_append, lk_append]
    by_cases hs : S k = T k
    · rw [hs, hh]
    · have hn := hST 0 r rfl hs
      rw [if_neg (fun h => hn ((keysBif _ _ _).1 h).2), if_neg (fun h => hn ((keysBif _ _ _).1 h).2)]
      exact hh
theorem selS_take {S : Nat → Bool} : ∀ {R : List Rc} {k i : Nat}, (∀ j, i ≤ j → S (k + j) = false) → selS S k (R.take i) = selS S k R
  | [], k, i, h => by simp
  | r :: rs, k, i, h => by
    cases i with
    | zero =>
      have h0 : S k = false := h 0 (by omega)
      have := selS_take (R := rs) (k := k + 1) (i := 0) (S := S) fun j _ => by rw [Nat.add_assoc]; exact h (1 + j) (by omega)
      rw [List.take_zero, selS] at this
      rw [List.take_zero, selS, selS, h0, ← this]; rfl
    | succ i =>
      rw [List.take_succ_cons, selS, selS, selS_take fun j hj => by rw [Nat.add_assoc]; exact h (1 + j) (by omega)]
theorem selH_take {S : Nat → Bool} : ∀ {R : List Rc} {k i : Nat}, (∀ j, i ≤ j → S (k + j) = false) → selH S k (R.take i) = selH S k R
  | [], k, i, h => by simp
  | r :: rs, k, i, h => by
    cases i with
    | zero =>
      have h0 : S k = false := h 0 (by omega)
      have := selH_take (R := rs) (k := k + 1) (i := 0) (S := S) fun j _ => by rw [Nat.add_assoc]; exact h (1 + j) (by omega)
      rw [List.take_zero, selH] at this
      rw [List.take_zero, selH, selH, h0, ← this]; rfl
    | succ i =>
      rw [List.take_succ_cons, selH, selH, selH_take fun j hj => by rw [Nat.add_assoc]; exact h (1 + j) (by omega)]
theorem offH_keys {S : Nat → Bool} {t : Nat} : ∀ {R : List Rc} {k : Nat}, t ∈ (offH S k R).map Prod.fst ↔ ∃ j r, R[j]? = some r ∧ S (k + j) = false ∧ t ∈ r.p.map Prod.fst
  | [], k => by simp [offH]
  | r :: rs, k => by
    rw [offH, List.map_append, List.mem_append, offH_keys]
    have : t ∈ (bif S k then [] else r.p.map fun x => (x.1, Blk.dead)).map Prod.fst ↔ S k = false ∧ t ∈ r.p.map Prod.fst := by
      cases S k <;> simp
    rw [this]
    constructor
    · rintro (⟨h1, h2⟩ | ⟨j, q, h1, h2, h3⟩)
      · exact ⟨0, r, rfl, h1, h2⟩
      · exact ⟨j + 1, q, by simpa using h1, by rw [← h2]; congr 1; omega, h3⟩
    · rintro ⟨j, q, h1, h2, h3⟩
      cases j with
      | zero => simp only [List.getElem?_cons_zero, Option.some.injEq] at h1; subst h1; exact .inl ⟨h2, h3⟩
      | succ j => exact .inr ⟨j, q, by simpa using h1, by rw [← h2]; congr 1; omega, h3⟩
theorem offH_dead {S : Nat → Bool} {t : Nat} : ∀ {R : List Rc} {k : Nat}, lk (offH S k R) t = .dead
  | [], k => rfl
  | r :: rs, k => by
    rw [offH, lk_append]
    split
    · cases S k
      · exact dead r.p
      · rfl
    · exact offH_dead
where dead {t : Nat} : ∀ (p : Heap), lk (p.map fun x => (x.1, Blk.dead)) t = .dead
  | [] => rfl
  | (i, b) :: p => by
    rw [List.map_cons, lk_cons]
    split
    · rfl
    · exact dead p
theorem okA_spec {S : Nat → Bool} {id : Nat} : ∀ {R : List Rc} {k : Nat}, okA S id k R = true → ∃ j r, R[j]? = some r ∧ S (k + j) = true ∧ r.lo ≤ id ∧ id < r.hi
  | [], k, h => by simp [okA] at h
  | r :: rs, k, h => by
    simp only [okA, Bool.or_eq_true, Bool.and_eq_true] at h
    rcases h with ⟨⟨h1, h2⟩, h3⟩ | h
    · exact ⟨0, r, rfl, h1, Nat.le_of_ble_eq_true h2, by simpa [Nat.blt_eq] using h3⟩
    · obtain ⟨j, q, h1, h2, h3⟩ := okA_spec h
      exact ⟨j + 1, q, by simpa using h1, by rw [← h2]; congr 1; omega, h3⟩
theorem hasN_mem : ∀ {l : List Nat} {id : Nat}, hasN l id = true ↔ id ∈ l
  | [], id => by simp [hasN]
  | a :: l, id => by
    simp only [hasN, Bool.or_eq_true, List.mem_cons, hasN_mem]
    constructor
    · rintro (h | h)
      · exact .inl (by simpa using (beq_iff_eq.1 h).symm)
      · exact .inr h
    · rintro (h | h)
      · exact .inl (by simp [h])
      · exact .inr h
theorem apart1_spec {q : Rc} {p : Heap} (h : apart1 q p = true) {id : Nat} (hid : id ∈ p.map Prod.fst) : (q.see = none → q.hi ≤ id ∧ id ∉ q.p.map Prod.fst) ∧ ∀ l, q.see = some l → id ∉ l := by
  obtain ⟨x, hx, rfl⟩ := List.mem_map.1 hid
  unfold apart1 at h
  split at h
  · rename_i hs
    rw [List.all_eq_true] at h
    have h1 := h x hx
    rw [Bool.and_eq_true, List.all_eq_true] at h1
    refine ⟨fun _ => ⟨Nat.le_of_ble_eq_true h1.1, fun hm => ?_⟩, fun l hl => by rw [hs] at hl; cases hl⟩
    obtain ⟨y, hy, hxy⟩ := List.mem_map.1 hm
    have h4 := h1.2 y hy
    rw [hxy] at h4
    simp at h4
  · rename_i l hs
    rw [List.all_eq_true] at h
    have h1 := h x hx
    refine ⟨fun hn => absurd (hs.symm.trans hn) (by simp), fun l' hl hm => ?_⟩
    rw [hs] at hl
    injection hl with hl
    subst hl
    rw [hasN_mem.2 hm] at h1
    cases h1
theorem apartA_spec {S : Nat → Bool} {p : Heap} : ∀ {R : List Rc} {k : Nat}, apartA S p k R = true → ∀ j r, R[j]? = some r → S (k + j) = false → apart1 r p = true
  | [], k, h, j, r, hj => by simp at hj
  | q :: rs, k, h, j, r, hj => by
    simp only [apartA, Bool.and_eq_true] at h
    intro hS
    cases j with
    | zero =>
      simp only [List.getElem?_cons_zero, Option.some.injEq] at hj
      subst hj
      have h1 := h.1
      simp only [Nat.add_zero] at hS
      rw [hS, Bool.false_or] at h1
      exact h1
    | succ j => exact apartA_spec h.2 j r (by simpa using hj) (by rw [← hS]; congr 1; omega)
theorem ancB_spec {rs : List Rc} : ∀ {es : List Edge} {A : Nat}, ancB rs es = some A →
    (∀ e ∈ es, Region.binds .any e = true → ∃ r, rs[e.on]? = some r ∧ A.testBit e.on = true ∧ ∀ k, r.A.testBit k = true → A.testBit k = true) ∧
    (∀ k, A.testBit k = true → ∃ e ∈ es, Region.binds .any e = true ∧ ∃ r, rs[e.on]? = some r ∧ (k = e.on ∨ r.A.testBit k = true))
  | [], A, h => by
    simp only [ancB, Option.some.injEq] at h
    subst h
    simp
  | e :: es, A, h => by
    simp only [ancB] at h
    split at h
    · rename_i a ha
      obtain ⟨i1, i2⟩ := ancB_spec ha
      cases hb : Region.binds .any e <;> rw [hb] at h
      · simp only [cond_false, Option.some.injEq] at h
        subst h
        refine ⟨fun e' he' hb' => ?_, fun k hk => ?_⟩
        · rcases List.mem_cons.1 he' with rfl | he'
          · rw [hb] at hb'; cases hb'
          · exact i1 e' he' hb'
        · obtain ⟨e', he', h2⟩ := i2 k hk
          exact ⟨e', List.mem_cons_of_mem _ he', h2⟩
      · simp only [cond_true] at h
        split at h
        · rename_i r hr
          injection h with h
          subst h
          have bit : ∀ k, (a ||| (r.A ||| 2 ^ e.on)).testBit k = true ↔ a.testBit k = true ∨ r.A.testBit k = true ∨ k = e.on := by
            intro k
            rw [Nat.testBit_or, Nat.testBit_or, Nat.testBit_two_pow]
            simp only [Bool.or_eq_true, decide_eq_true_eq]
            constructor
            · rintro (h | h | h)
              · exact .inl h
              · exact .inr (.inl h)
              · exact .inr (.inr h.symm)
            · rintro (h | h | h)
              · exact .inl h
              · exact .inr (.inl h)
              · exact .inr (.inr h.symm)
          refine ⟨fun e' he' hb' => ?_, fun k hk => ?_⟩
          · rcases List.mem_cons.1 he' with rfl | he'
            · exact ⟨r, hr, (bit _).2 (.inr (.inr rfl)), fun k hk => (bit k).2 (.inr (.inl hk))⟩
            · obtain ⟨q, h1, h2, h3⟩ := i1 e' he' hb'
              exact ⟨q, h1, (bit _).2 (.inl h2), fun k hk => (bit k).2 (.inl (h3 k hk))⟩
          · rcases (bit k).1 hk with h | h | h
            · obtain ⟨e', he', h2⟩ := i2 k h
              exact ⟨e', List.mem_cons_of_mem _ he', h2⟩
            · exact ⟨e, List.mem_cons_self, hb, r, hr, .inr h⟩
            · exact ⟨e, List.mem_cons_self, hb, r, hr, .inl h⟩
        · cases h
    · cases h
end Go.Fw
