/- Regions whose order is drawn: any order leads where the plain evaluator says. By this session. -/
import Derived.Test.YtloambokbipnjaaFt
set_option linter.unusedVariables false
set_option linter.unusedSimpArgs false
namespace Go.Fw
variable {P : Program}

def noCall (h : Hs) : Hs := { h with call := fun _ _ _ _ => none }
theorem CallsOK.noCall {h : Hs} (hok : CallsOK P h) : CallsOK P (noCall h) := ⟨hok.ext, hok.pcall, fun g xs n hp r h => by cases h⟩

structure RcOK (P : Program) (h : Hs) (all : List Oper) (f0 : Slots) (n0 : Nat) (h0 : Heap) (rs : List Rc) (o : Oper) (r : Rc) : Prop where
  anc : ancB rs o.after.toList = some r.A
  st : ∃ st', evOper P (noCall h) all o ⟨selS (r.A.testBit ·) 0 rs ++ f0, r.lo, viewH (r.A.testBit ·) rs h0 r.see⟩ = some st' ∧ r = rcOf r.A o r.lo r.see (viewH (r.A.testBit ·) rs h0 r.see) st'
  ok : okRc (r.A.testBit ·) n0 rs r = true

theorem drawStep_spec {h : Hs} {all : List Oper} {f0 : Slots} {n0 : Nat} {h0 : Heap} {rs : List Rc} {n : Nat} {o : Oper} {r : Rc} (he : drawStep P h all f0 n0 h0 rs n o = some r) :
    RcOK P h all f0 n0 h0 rs o r := by
  unfold drawStep at he
  split at he
  · rename_i A hA
    simp only at he
    split at he
    · rename_i st' hst
      obtain ⟨h1, h2⟩ := cond_some he
      injection h2 with h2
      have e1 : r.A = A := by rw [← h2]; rfl
      have e2 : r.lo = n := by rw [← h2]; rfl
      have e3 : r.see = seeOf h.G (selS (A.testBit ·) 0 rs ++ f0) o := by rw [← h2]; rfl
      refine ⟨by rw [e1]; exact hA, ⟨st', by rw [e1, e2, e3]; exact hst, by rw [e1, e2, e3]; exact h2.symm⟩, by rw [e1, ← h2]; exact h1⟩
    · cases he
  · cases he

theorem drawGo_spec {h : Hs} {all : List Oper} {f0 : Slots} {n0 : Nat} {h0 : Heap} : ∀ (os : List Oper) (rs : List Rc) (n : Nat) (R : List Rc) (N : Nat), drawGo P h all f0 n0 h0 os rs n = some (R, N) →
    n ≤ N ∧ R.length = rs.length + os.length ∧ (∀ j, j < rs.length → R[j]? = rs[j]?) ∧ ∀ j o, os[j]? = some o → ∃ r, R[rs.length + j]? = some r ∧ RcOK P h all f0 n0 h0 (R.take (rs.length + j)) o r ∧ r.hi ≤ N
  | [], rs, n, R, N, he => by
    simp only [drawGo, Option.some.injEq, Prod.mk.injEq] at he
    obtain ⟨rfl, rfl⟩ := he
    exact ⟨Nat.le_refl _, by simp, fun _ _ => rfl, by simp⟩
  | o :: os, rs, n, R, N, he => by
    simp only [drawGo] at he
    split at he
    · rename_i r hr
      have hok := drawStep_spec hr
      have hlo : n = r.lo := by
        unfold drawStep at hr
        split at hr
        · simp only at hr
          split at hr
          · have := (cond_some hr).2
            injection this with this
            rw [← this]; rfl
          · cases hr
        · cases hr
      obtain ⟨i0, i1, i2, i3⟩ := drawGo_spec os (rs ++ [r]) r.hi R N he
      have hlen : (rs ++ [r]).length = rs.length + 1 := by simp
      have hr0 : R[rs.length]? = some r := by rw [i2 rs.length (by simp)]; simp
      have hpre : R.take rs.length = rs := by
        apply List.ext_getElem?
        intro j
        by_cases hj : j < rs.length
        · rw [List.getElem?_take_of_lt hj, i2 j (by simp; omega), List.getElem?_append_left hj]
        · rw [List.getElem?_take_eq_none (by omega), List.getElem?_eq_none (by omega)]
      have hk := hok.ok
      simp only [okRc, Bool.and_eq_true] at hk
      have hle : r.lo ≤ r.hi := Nat.le_of_ble_eq_true hk.1.1.1.1.1.2
      refine ⟨by omega, by rw [i1, hlen]; simp; omega, fun j hj => by rw [i2 j (by simp; omega), List.getElem?_append_left hj], fun j o' hj => ?_⟩
      cases j with
      | zero =>
        simp only [List.getElem?_cons_zero, Option.some.injEq] at hj
        subst hj
        exact ⟨r, hr0, by rw [Nat.add_zero, hpre]; exact hok, i0⟩
      | succ j =>
        obtain ⟨q, h1, h2, h3⟩ := i3 j o' (by simpa using hj)
        rw [hlen] at h1 h2
        exact ⟨q, by rw [← h1]; congr 1; omega, by rw [show rs.length + (j + 1) = rs.length + 1 + j by omega]; exact h2, h3⟩
    · cases he

/-- what surely holds of the records of a region -/
structure Recs (P : Program) (h : Hs) (all : Array Oper) (f0 : Slots) (n0 : Nat) (h0 : Heap) (R : List Rc) (N : Nat) : Prop where
  len : R.length = all.size
  n0N : n0 ≤ N
  at_ : ∀ i o, all[i]? = some o → ∃ r, R[i]? = some r ∧ RcOK P h all.toList f0 n0 h0 (R.take i) o r ∧ r.hi ≤ N
  hlt : ∀ id, lk h0 id ≠ .dead → id < n0
  hbox : ∀ id cs, lk h0 id = .box cs → ∀ x ∈ cs, inB (fun id => Nat.blt id n0) x = true

section
variable {h : Hs} {all : Array Oper} {f0 : Slots} {n0 : Nat} {h0 : Heap} {R : List Rc} {N : Nat} (hR : Recs P h all f0 n0 h0 R N)
include hR

theorem Recs.of {i : Nat} {r : Rc} (hr : R[i]? = some r) : ∃ o, all[i]? = some o ∧ RcOK P h all.toList f0 n0 h0 (R.take i) o r ∧ r.hi ≤ N := by
  have hi : i < all.size := by rw [← hR.len]; exact (List.getElem?_eq_some_iff.1 hr).1
  obtain ⟨q, h1, h2, h3⟩ := hR.at_ i all[i] (Array.getElem?_eq_getElem hi)
  rw [hr] at h1
  injection h1 with h1
  subst h1
  exact ⟨_, Array.getElem?_eq_getElem hi, h2, h3⟩

theorem Recs.bit : ∀ (i : Nat) (r : Rc), R[i]? = some r → ∀ k, r.A.testBit k = true → k < i ∧ ∃ q, R[k]? = some q ∧ ∀ l, q.A.testBit l = true → r.A.testBit l = true := by
  intro i
  induction i using Nat.strongRecOn with
  | _ i ih =>
    intro r hr k hk
    obtain ⟨o, ho, hok, _⟩ := hR.of hr
    obtain ⟨a1, a2⟩ := ancB_spec hok.anc
    obtain ⟨e, he, hb, q, hq, hkq⟩ := a2 k hk
    have hei : e.on < i := by
      have := (List.getElem?_eq_some_iff.1 hq).1
      rw [List.length_take] at this; omega
    rw [List.getElem?_take_of_lt hei] at hq
    obtain ⟨q', hq', _, hsub⟩ := a1 e he hb
    rw [List.getElem?_take_of_lt hei, hq] at hq'
    injection hq' with hq'
    subst hq'
    rcases hkq with rfl | hkq
    · exact ⟨hei, q, hq, hsub⟩
    · obtain ⟨h1, p, h2, h3⟩ := ih e.on hei q hq k hkq
      exact ⟨by omega, p, h2, fun l hl => hsub l (h3 l hl)⟩

theorem Recs.facts {i : Nat} {r : Rc} (hr : R[i]? = some r) : n0 ≤ r.lo ∧ r.lo ≤ r.hi ∧ r.hi ≤ N ∧ (∀ j q, j < i → R[j]? = some q → q.hi ≤ r.lo ∧ ∀ t, t ∈ q.s.map Prod.fst → t ∉ r.s.map Prod.fst) ∧
    (∀ l, r.see = some l → r.p = []) ∧ (∀ j q, j < i → R[j]? = some q → r.A.testBit j = false → apart1 q r.p = true) := by
  obtain ⟨o, ho, hok, hN⟩ := hR.of hr
  have hk := hok.ok
  simp only [okRc, Bool.and_eq_true] at hk
  obtain ⟨⟨⟨⟨⟨⟨k1, k2⟩, k3⟩, k4⟩, k5⟩, k6⟩, k7⟩ := hk
  have mem : ∀ j q, j < i → R[j]? = some q → (R.take i)[j]? = some q := fun j q hj hq => by rw [List.getElem?_take_of_lt hj]; exact hq
  refine ⟨Nat.le_of_ble_eq_true k1, Nat.le_of_ble_eq_true k2, hN, fun j q hj hq => ?_, fun l hm => ?_, fun j q hj hq hA => ?_⟩
  · rw [List.all_eq_true] at k3
    have := k3 q (List.mem_of_getElem? (mem j q hj hq))
    rw [Bool.and_eq_true] at this
    refine ⟨Nat.le_of_ble_eq_true this.1, fun t ht ht' => ?_⟩
    obtain ⟨x, hx, rfl⟩ := List.mem_map.1 ht
    obtain ⟨y, hy, hxy⟩ := List.mem_map.1 ht'
    have h2 := this.2
    rw [List.all_eq_true] at h2
    have h3 := h2 x hx
    rw [List.all_eq_true] at h3
    have h4 := h3 y hy
    rw [hxy] at h4
    simp at h4
  · rw [hm] at k4
    simp only [Option.isNone_some, Bool.false_or, Bool.and_eq_true] at k4
    exact List.isEmpty_iff.1 k4.1
  · exact apartA_spec k5 j q (mem j q hj hq) (by simpa using hA)

/-- the numbers that the executed ones give out -/
def OkId (R : List Rc) (n0 : Nat) (S : Nat → Bool) (id : Nat) : Prop := id < n0 ∨ ∃ k q, R[k]? = some q ∧ S k = true ∧ q.lo ≤ id ∧ id < q.hi

omit hR in
theorem Recs.ids {i : Nat} {r : Rc} (hr : R[i]? = some r) {S : Nat → Bool} (hi : S i = true) (hS : ∀ k, r.A.testBit k = true → S k = true) :
    ∀ id, (Nat.blt id n0 || Nat.ble r.lo id && Nat.blt id r.hi || okA (r.A.testBit ·) id 0 (R.take i)) = true → OkId R n0 S id := by
  intro id hid
  simp only [Bool.or_eq_true, Bool.and_eq_true] at hid
  rcases hid with (h1 | ⟨h1, h2⟩) | h1
  · exact .inl (by simpa [Nat.blt_eq] using h1)
  · exact .inr ⟨i, r, hr, hi, Nat.le_of_ble_eq_true h1, by simpa [Nat.blt_eq] using h2⟩
  · obtain ⟨j, q, g1, g2, g3, g4⟩ := okA_spec h1
    have hj : j < i := by
      have := (List.getElem?_eq_some_iff.1 g1).1
      rw [List.length_take] at this; omega
    rw [List.getElem?_take_of_lt hj] at g1
    exact .inr ⟨j, q, g1, hS j (by simpa using g2), g3, g4⟩

open Classical in
theorem Recs.heap {S : Nat → Bool} (hS : ∀ i r, R[i]? = some r → S i = true → ∀ k, r.A.testBit k = true → S k = true) {id : Nat} (hl : lk (selH S 0 R ++ h0) id ≠ .dead) :
    OkId R n0 S id ∧ ∀ cs, lk (selH S 0 R ++ h0) id = .box cs → ∀ x ∈ cs, inB (fun id => decide (OkId R n0 S id)) x = true := by
  rw [lk_append] at hl ⊢
  by_cases hk : id ∈ (selH S 0 R).map Prod.fst
  · rw [if_pos hk] at hl
    rw [if_pos hk]
    obtain ⟨j, r, h1, h2, h3, h4⟩ := selH_some hk
    rw [Nat.zero_add] at h2
    rw [h4]
    obtain ⟨o, ho, hok, _⟩ := hR.of h1
    have hk := hok.ok
    simp only [okRc, Bool.and_eq_true] at hk
    have h7 := hk.2
    rw [List.all_eq_true] at h7
    have h8 := h7 _ (lk_mem h3)
    rw [Bool.and_eq_true] at h8
    have ids := Recs.ids (n0 := n0) h1 h2 (hS j r h1 h2)
    refine ⟨ids _ h8.1, fun cs hcs x hx => ?_⟩
    have h9 := h8.2
    simp only [hcs, inBk] at h9
    obtain ⟨l, hl1⟩ := List.getElem?_of_mem hx
    exact inB_mono (fun id hid => by simpa using ids id hid) x (inBs_all h9 l x hl1)
  · rw [if_neg hk] at hl
    rw [if_neg hk]
    refine ⟨.inl (hR.hlt id hl), fun cs hcs x hx => ?_⟩
    exact inB_mono (fun id hid => decide_eq_true (show OkId R n0 S id from Or.inl (by simpa [Nat.blt_eq] using hid))) x (hR.hbox id cs hcs x hx)

/-- what an operation sees of memory is there, or it sees nothing -/
theorem Recs.view {i : Nat} {r : Rc} (hr : R[i]? = some r) {S : Nat → Bool} (hS : ∀ i r, R[i]? = some r → S i = true → ∀ k, r.A.testBit k = true → S k = true)
    (hi : S i = false) (hA : ∀ k, r.A.testBit k = true → S k = true) (id : Nat) :
    (lk (viewH (r.A.testBit ·) (R.take i) h0 r.see) id = .dead ∨ lk (viewH (r.A.testBit ·) (R.take i) h0 r.see) id = lk (selH S 0 R ++ h0) id) ∧
    (lk (viewH (r.A.testBit ·) (R.take i) h0 r.see) id ≠ .dead → id < r.lo ∧ ∀ cs, lk (viewH (r.A.testBit ·) (R.take i) h0 r.see) id = .box cs → ∀ x ∈ cs, inB (fun id => Nat.blt id r.lo) x = true) := by
  have full : (∀ l, r.see = some l → id ∈ l) → (lk (offH (r.A.testBit ·) 0 (R.take i) ++ (selH (r.A.testBit ·) 0 (R.take i) ++ h0)) id = .dead ∨ lk (offH (r.A.testBit ·) 0 (R.take i) ++ (selH (r.A.testBit ·) 0 (R.take i) ++ h0)) id = lk (selH S 0 R ++ h0) id) ∧
      (lk (offH (r.A.testBit ·) 0 (R.take i) ++ (selH (r.A.testBit ·) 0 (R.take i) ++ h0)) id ≠ .dead → id < r.lo ∧ ∀ cs, lk (offH (r.A.testBit ·) 0 (R.take i) ++ (selH (r.A.testBit ·) 0 (R.take i) ++ h0)) id = .box cs → ∀ x ∈ cs, inB (fun id => Nat.blt id r.lo) x = true) := by
    intro hsee
    rw [lk_append]
    by_cases hk : id ∈ (offH (r.A.testBit ·) 0 (R.take i)).map Prod.fst
    · rw [if_pos hk, offH_dead]
      exact ⟨.inl rfl, fun h => absurd rfl h⟩
    · rw [if_neg hk]
      have hAi : ∀ j, i ≤ j → (r.A.testBit ·) (0 + j) = false := by
        intro j hj
        rw [Nat.zero_add]
        cases hb : r.A.testBit j
        · exact hb
        · have := (hR.bit i r hr j hb).1; omega
      rw [selH_take hAi]
      have hcl : ∀ j q, R[j]? = some q → (r.A.testBit ·) j = true → ∀ k, q.A.testBit k = true → (r.A.testBit ·) k = true := by
        intro j q hq hj k hk
        obtain ⟨_, q', h2, h3⟩ := hR.bit i r hr j hj
        rw [hq] at h2; injection h2 with h2; subst h2
        exact h3 k hk
      have lows : ∀ id, OkId R n0 (r.A.testBit ·) id → id < r.lo := by
        rintro id (h1 | ⟨j, q, h1, h2, h3, h4⟩)
        · have := (hR.facts hr).1; omega
        · have h5 := (hR.bit i r hr j h2).1
          have := ((hR.facts hr).2.2.2.1 j q h5 h1).1
          omega
      by_cases hd : lk (selH (r.A.testBit ·) 0 R ++ h0) id = .dead
      · exact ⟨.inl hd, fun h => absurd hd h⟩
      · obtain ⟨h1, h2⟩ := hR.heap hcl hd
        refine ⟨.inr ?_, fun _ => ⟨lows id h1, fun cs hcs x hx => ?_⟩⟩
        · refine selH_congr (fun j q hq hne hmemq => ?_) rfl
          rw [Nat.zero_add] at hne
          have hSj : S j = true ∧ r.A.testBit j = false := by
            cases hb : r.A.testBit j
            · cases hs : S j
              · rw [hb, hs] at hne; exact absurd rfl hne
              · exact ⟨rfl, rfl⟩
            · rw [hA j hb] at hne
              exact absurd hb (by simpa using hne)
          have hji : j ≠ i := by rintro rfl; rw [hi] at hSj; cases hSj.1
          rcases Nat.lt_or_ge j i with hlt | hge
          · exact hk (offH_keys.2 ⟨j, q, by rw [List.getElem?_take_of_lt hlt]; exact hq, by rw [Nat.zero_add]; exact hSj.2, hmemq⟩)
          · have hlt : i < j := by omega
            have hnA : q.A.testBit i = false := by
              cases hb : q.A.testBit i
              · rfl
              · have := hS j q hq hSj.1 i hb
                rw [hi] at this; cases this
            obtain ⟨p1, p2⟩ := apart1_spec ((hR.facts hq).2.2.2.2.2 i r hlt hr hnA) hmemq
            cases hsr : r.see with
            | none =>
              have := (p1 hsr).1
              have h3 := lows id h1
              have := (hR.facts hr).2.1
              omega
            | some l => exact p2 l hsr (hsee l hsr)
        · exact inB_mono (fun id hid => by simpa [Nat.blt_eq] using lows id (by simpa using hid)) x (h2 cs hcs x hx)
  cases hsee : r.see with
  | none =>
    simp only [viewH]
    exact full (fun l hl => by rw [hsee] at hl; cases hl)
  | some l =>
    simp only [viewH]
    have key : ∀ (l : List Nat) (H : Heap), (id ∈ l → lk (l.map fun id => (id, lk H id)) id = lk H id) ∧ (id ∉ l → lk (l.map fun id => (id, lk H id)) id = .dead) := by
      intro l H
      induction l with
      | nil => exact ⟨fun h => by simp at h, fun _ => rfl⟩
      | cons a l ih =>
        rw [List.map_cons, lk_cons]
        by_cases ha : a = id
        · subst ha; rw [if_pos rfl]; exact ⟨fun _ => rfl, fun h => absurd List.mem_cons_self h⟩
        · rw [if_neg ha]
          exact ⟨fun h => ih.1 ((List.mem_cons.1 h).resolve_left fun h' => ha h'.symm), fun h => ih.2 fun h' => h (List.mem_cons_of_mem _ h')⟩
    by_cases hin : id ∈ l
    · rw [(key l _).1 hin]
      exact full (fun l' hl => by rw [hsee] at hl; injection hl with hl; subst hl; exact hin)
    · rw [(key l _).2 hin]
      exact ⟨.inl rfl, fun h => absurd rfl h⟩
end
end Go.Fw
