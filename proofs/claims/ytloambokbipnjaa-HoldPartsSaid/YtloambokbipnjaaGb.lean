/- What the tree of the plain evaluator says is so: the operations. By this session. -/
import Derived.Test.YtloambokbipnjaaGa
set_option linter.unusedVariables false
set_option linter.unusedSimpArgs false
namespace Go.Fw
variable {P : Program} {α : Type} {r : α}

theorem someK_sound {x : Option V} {K : V → Option α} (h : someK x K = some r) : ∃ v, x = some v ∧ K v = some r := by
  unfold someK at h
  split at h
  · exact ⟨_, rfl, h⟩
  · cases h
theorem leafK_sound {z x : D} {K : D → Option α} (h : leafK z x K = some r) : K x = some r := by
  unfold leafK at h
  split at h
  · obtain ⟨h1, h2⟩ := cond_some h
    cases x <;> first | (cases h1; done) | exact h2
  · obtain ⟨h1, h2⟩ := cond_some h
    cases x <;> first | (cases h1; done) | skip
    simp only [isI, decide_eq_true_eq] at h1
    subst h1
    exact h2
  · obtain ⟨h1, h2⟩ := cond_some h
    cases x <;> first | (cases h1; done) | exact h2
  · cases hx : isNsl x <;> rw [hx] at h
    · obtain ⟨h1, h2⟩ := cond_some h
      cases x <;> first | (cases h1; done) | exact h2
    · cases x <;> first | (cases hx; done) | exact h
  · exact h
theorem cellsK_sound {cs : List D} : ∀ {zs : List D} {c : Nat} {K : List D → Option α}, cellsK cs zs c K = some r → c + zs.length ≤ cs.length → K ((cs.drop c).take zs.length) = some r
  | [], c, K, h, _ => by simpa [cellsK] using h
  | z :: zs, c, K, h, hl => by
    simp only [cellsK] at h
    have h1 := leafK_sound h
    simp only [List.length_cons] at hl
    have h2 := cellsK_sound h1 (by omega)
    have hc : c < cs.length := by omega
    rw [List.length_cons, List.drop_eq_getElem_cons hc, List.take_succ_cons]
    have : cs.getD c .nsl = cs[c] := by simp [hc]
    rw [this] at h2
    exact h2
theorem partK_sound {t : TypeId} {cs : List D} {off : Nat} {K : D → Option α} (h : partK P t cs off K = some r) : ∃ d, partD P t cs off = some d ∧ K d = some r := by
  unfold partK at h
  unfold partD
  split at h
  · rename_i zs ha _
    obtain ⟨h1, h2⟩ := cond_some h
    rw [Bool.and_eq_true] at h1
    have hz : zs.length = sz P t := by simpa using h1.1
    have hle := Nat.le_of_ble_eq_true h1.2
    rw [ha]
    simp only [h1.2, cond_true]
    exact ⟨_, rfl, by rw [← hz]; exact cellsK_sound h2 (by omega)⟩
  · rename_i z ha _
    obtain ⟨h1, h2⟩ := cond_some h
    have hlt : off < cs.length := by simpa [Nat.blt_eq] using h1
    rw [ha]
    refine ⟨cs[off], by simp [hlt], ?_⟩
    have h3 := leafK_sound h2
    have : cs.getD off .nsl = cs[off] := by simp [hlt]
    rw [this] at h3
    exact h3
  · cases h
theorem getD_of {xs : List D} {k : Nat} (h : Nat.blt k xs.length = true) : xs[k]? = some (xs.getD k .nsl) := by
  have hlt : k < xs.length := by simpa [Nat.blt_eq] using h
  simp [hlt]
theorem loadK_sound {t : TypeId} {hp : Heap} {a : V} {K : V → Option α} (h : loadK P t hp a K = some r) : ∃ v, loadV P t hp a = some v ∧ K v = some r := by
  unfold loadK at h
  split at h
  · exact someK_sound h
  · split at h
    · rename_i w' xs hb
      obtain ⟨h1, h2⟩ := cond_some h
      rw [Bool.and_eq_true] at h1
      obtain ⟨d, h3, h4⟩ := partK_sound h2
      simp only [loadV, hb, h1.1, getD_of h1.2, cond_true, h3, Option.map_some]
      exact ⟨_, rfl, h4⟩
    · rename_i w' xs hb
      obtain ⟨h1, h2⟩ := cond_some h
      rw [Bool.and_eq_true] at h1
      obtain ⟨d, h3, h4⟩ := partK_sound h2
      simp only [loadV, hb, h1.1, getD_of h1.2, cond_true, h3, Option.map_some]
      exact ⟨_, rfl, h4⟩
    · cases h
  · obtain ⟨d, h3, h4⟩ := partK_sound h
    simp only [loadV, h3, Option.map_some]
    exact ⟨_, rfl, h4⟩
  · cases h
theorem storeK_sound {t : TypeId} {hp : Heap} {a v : V} {K : Heap → Option α} (h : storeK P t hp a v K = some r) : ∃ hp', storeV P t hp a v = some hp' ∧ K hp' = some r := by
  unfold storeK at h
  split at h
  · rename_i id w k
    obtain ⟨h1, h2⟩ := cond_some h
    split at h2
    · rename_i w' xs hb
      obtain ⟨h3, h4⟩ := cond_some h2
      rw [Bool.and_eq_true] at h3
      split at h4
      · rename_i ds hds
        simp only [storeV, h1, cond_true, hb, h3.1, getD_of h3.2, hds]
        split at h4
        · obtain ⟨h5, h6⟩ := cond_some h4
          generalize xs.getD k .nsl = x at h5 h6
          cases x with
          | ag cs =>
            have hl : cs.length = ds.length := by simpa [isAg] using h5
            have hb2 : Nat.ble (0 + ds.length) cs.length = true := Nat.ble_eq_true_of_le (by omega)
            simp only [reD, hb2, cond_true]
            refine ⟨_, rfl, ?_⟩
            have : lay cs 0 ds = ds := by
              unfold lay
              rw [List.take_zero, List.nil_append, Nat.zero_add, List.drop_eq_nil_of_le (by omega), List.append_nil]
            rw [this]; exact h6
          | _ => cases h5
        · split at h4
          · obtain ⟨h5, h6⟩ := cond_some h4
            rw [Bool.and_eq_true] at h5
            generalize xs.getD k .nsl = x at h5 h6
            cases x with
            | ag cs => cases h5.1
            | _ => exact ⟨_, by simp only [reD, h5.2, cond_true], h6⟩
          · cases h4
        · cases h4
      · cases h4
    · cases h2
  · split at h
    · rename_i hp' hs
      exact ⟨hp', hs, h⟩
    · cases h
theorem eqFldsB_sound {e e' : TypeId → D → D → Option Bool} (he : ∀ t x y b, e t x y = some b → e' t x y = some b) {xs ys : List D} : ∀ {fs : List Field} {b : Bool}, eqFldsB P e xs ys fs = some b → eqFlds P e' xs ys fs = some b
  | [], b, h => h
  | f :: fs, b, h => by
    simp only [eqFldsB] at h
    simp only [eqFlds]
    cases hn : (f.name != "_") <;> rw [hn] at h
    · simp only [cond_false] at h ⊢
      exact eqFldsB_sound he h
    · simp only [cond_true] at h ⊢
      split at h
      · rename_i x y h1 h2
        split at h
        · rename_i t u h3 h4
          injection h with h
          rw [h1, h2]
          simp only [he _ _ _ _ h3]
          cases t
          · simp only [Bool.false_and] at h; subst h; rfl
          · simp only [Bool.true_and] at h; subst h; exact eqFldsB_sound he h4
        · cases h
      · cases h
theorem eqTB_sound : ∀ {n : Nat} {t : TypeId} {x y : D} {b : Bool}, eqTB P n t x y = some b → eqT P n t x y = some b
  | 0, t, x, y, b, h => by cases h
  | n + 1, t, x, y, b, h => by
    simp only [eqTB] at h
    simp only [eqT]
    split at h
    · split at h
      · rename_i fs hfs
        cases hs : P.stoodInHeld t <;> rw [hs] at h
        · simp only [cond_false] at h
          rw [hfs]
          simp only [hs, cond_false]
          exact eqFldsB_sound (fun t x y b h => eqTB_sound h) h
        · cases h
      · cases h
    · rename_i hne
      split
      · rename_i xs ys; exact absurd rfl (hne xs ys rfl)
      · exact h
theorem binK_sound {op : BinOp} {t : TypeId} {x y : V} {K : V → Option α} (h : binK P op t x y K = some r) : ∃ v, binV P op t x y = some v ∧ K v = some r := by
  unfold binK at h
  split at h
  · rename_i k a k' c
    split at h
    · obtain ⟨h1, h2⟩ := cond_none h
      exact ⟨_, by simp only [binV, shiftI, h1, cond_false, Option.map_some], h2⟩
    · obtain ⟨h1, h2⟩ := cond_none h
      exact ⟨_, by simp only [binV, shiftI, h1, cond_false, Option.map_some], h2⟩
    · obtain ⟨h0, h⟩ := cond_some h
      obtain ⟨h1, h2⟩ := cond_none h
      exact ⟨_, by simp only [binV, binI, h0, h1, cond_false, cond_true, Option.map_some], h2⟩
    · obtain ⟨h0, h⟩ := cond_some h
      obtain ⟨h1, h2⟩ := cond_none h
      exact ⟨_, by simp only [binV, binI, h0, h1, cond_false, cond_true, Option.map_some], h2⟩
    · exact someK_sound h
  · split at h
    · obtain ⟨h1, h2⟩ := cond_some h
      exact ⟨_, by simp only [binV, binS, h1, cond_true, Option.map_some], h2⟩
    · exact someK_sound h
  · rename_i xs ys
    obtain ⟨h1, h2⟩ := cond_none h
    split at h2
    · split at h2
      · rename_i b hb
        exact ⟨_, by simp only [binV, eqV, h1, cond_false, eqTB_sound hb, Option.map_some], h2⟩
      · cases h2
    · split at h2
      · rename_i b hb
        exact ⟨_, by simp only [binV, eqV, h1, cond_false, eqTB_sound hb, Option.map_some], h2⟩
      · cases h2
    · cases h2
  · exact someK_sound h
theorem asNatK_sound {n : Int} {m : Nat} {K : Nat → Option α} (h : asNatK n m K = some r) : asNat n m = some n.toNat ∧ n.toNat < m ∧ K n.toNat = some r := by
  unfold asNatK at h
  obtain ⟨h1, h2⟩ := cond_some h
  have h3 := h1
  rw [Bool.and_eq_true, decide_eq_true_eq, decide_eq_true_eq] at h3
  exact ⟨by simp only [asNat, h1, cond_true], by omega, h2⟩
theorem bndK_sound {G : Nat → Option (List D)} {f : Slots} {o : Option Operand} {d m : Nat} {K : Nat → Option α} (h : bndK G f o d m K = some r) : ∃ j, bnd G f o d m = some j ∧ K j = some r := by
  unfold bndK at h
  unfold bnd
  split at h
  · exact ⟨_, rfl, h⟩
  · split at h
    · rename_i hx
      obtain ⟨h1, h2⟩ := cond_some h
      simp only [hx, h1, cond_true]
      exact ⟨_, rfl, h2⟩
    · cases h
theorem indexK_sound {t : TypeId} {x i : V} {K : V → Option α} (h : indexK P t x i K = some r) : ∃ v, indexV P t x i = some v ∧ K v = some r := by
  unfold indexK at h
  split at h
  · split at h
    · obtain ⟨h1, h2⟩ := cond_some h
      obtain ⟨h3, h4, h5⟩ := asNatK_sound h2
      exact ⟨_, by simp only [indexV, h1, cond_true, h3], h5⟩
    · split at h
      · rename_i len e ha
        obtain ⟨h3, h4, h5⟩ := asNatK_sound h
        obtain ⟨d, h6, h7⟩ := partK_sound h5
        exact ⟨_, by simp only [indexV, ha, h3, h6, Option.map_some], h7⟩
      · cases h
    · exact someK_sound h
  · cases h
theorem indexAddrK_sound {t : TypeId} {x i : V} {K : V → Option α} (h : indexAddrK P t x i K = some r) : ∃ v, indexAddrV P t x i = some v ∧ K v = some r := by
  have get : ∀ {xs : List D} {j : Nat}, j < xs.length → xs[j]? = some (xs.getD j .nsl) := fun {xs j} h => by simp [h]
  unfold indexAddrK at h
  split at h
  · split at h
    · rename_i e he
      split at h
      · obtain ⟨h1, h2⟩ := cond_some h
        obtain ⟨h3, h4, h5⟩ := asNatK_sound h2
        exact ⟨_, by simp only [indexAddrV, he, h1, cond_true, h3, get h4], h5⟩
      · obtain ⟨h1, h2⟩ := cond_some h
        obtain ⟨h3, h4, h5⟩ := asNatK_sound h2
        exact ⟨_, by simp only [indexAddrV, he, h1, cond_true, h3, get h4], h5⟩
      · obtain ⟨h1, h2⟩ := cond_some h
        obtain ⟨h3, h4, h5⟩ := asNatK_sound h2
        exact ⟨_, by simp only [indexAddrV, he, h1, cond_true, h3], h5⟩
      · cases h
    · rename_i he
      split at h
      · rename_i len e ha
        split at h
        · obtain ⟨h1, h2⟩ := cond_some h
          obtain ⟨h3, h4, h5⟩ := asNatK_sound h2
          exact ⟨_, by simp only [indexAddrV, he, ha, h1, cond_true, h3], h5⟩
        · obtain ⟨h1, h2⟩ := cond_some h
          obtain ⟨h3, h4, h5⟩ := asNatK_sound h2
          exact ⟨_, by simp only [indexAddrV, he, ha, h1, cond_true, h3], h5⟩
        · cases h
      · cases h
  · cases h
theorem sliceK_sound {G : Nat → Option (List D)} {t : TypeId} {f : Slots} {x : V} {lo hi mx : Option Operand} {K : V → Option α} (h : sliceK P G t f x lo hi mx K = some r) : ∃ v, sliceV P G t f x lo hi mx = some v ∧ K v = some r := by
  unfold sliceK at h
  split at h
  · obtain ⟨h1, h⟩ := cond_some h
    split at h
    · cases h
    · obtain ⟨a, h2, h⟩ := bndK_sound h
      obtain ⟨b, h3, h⟩ := bndK_sound h
      exact ⟨_, by simp only [sliceV, h1, cond_true, h2, h3], h⟩
  · exact someK_sound h
  · obtain ⟨h1, h⟩ := cond_some h
    obtain ⟨a, h2, h⟩ := bndK_sound h
    obtain ⟨b, h3, h⟩ := bndK_sound h
    split at h
    · exact ⟨_, by simp only [sliceV, h1, cond_true, h2, h3], h⟩
    · obtain ⟨c, h4, h⟩ := bndK_sound h
      obtain ⟨h5, h⟩ := cond_some h
      exact ⟨_, by simp only [sliceV, h1, cond_true, h2, h3, h4, h5], h⟩
    · cases h
  · rename_i w xs
    obtain ⟨h1, h⟩ := cond_some h
    split at h
    · obtain ⟨a, h2, h⟩ := bndK_sound h
      obtain ⟨b, h3, h⟩ := bndK_sound h
      cases hb : (a == List.length xs) <;> rw [hb] at h
      · exact ⟨_, by simp only [sliceV, h1, cond_true, h2, h3, hb, cond_false], h⟩
      · exact ⟨_, by simp only [sliceV, h1, cond_true, h2, h3, hb], h⟩
    · cases h
  · obtain ⟨h1, h⟩ := cond_some h
    split at h
    · obtain ⟨a, h2, h⟩ := bndK_sound h
      obtain ⟨b, h3, h⟩ := bndK_sound h
      exact ⟨_, by simp only [sliceV, h1, cond_true, h2, h3], h⟩
    · cases h
  · cases h
theorem frzK_sound {hp : Heap} {v : V} {K : D → Heap → Option α} (h : frzK hp v K = some r) : ∃ d hp', frz hp v = some (d, hp') ∧ K d hp' = some r := by
  unfold frzK at h
  split at h
  · exact ⟨_, _, rfl, h⟩
  · split at h
    · rename_i w' xs hb
      obtain ⟨h1, h⟩ := cond_some h
      exact ⟨_, _, by simp only [frz, hb, h1, cond_true], h⟩
    · rename_i w' xs hb
      obtain ⟨h1, h⟩ := cond_some h
      exact ⟨_, _, by simp only [frz, hb, h1, cond_true], h⟩
    · cases h
  · exact ⟨_, _, rfl, h⟩
  · split at h
    · rename_i d hp' hf
      exact ⟨d, hp', hf, h⟩
    · cases h
theorem frzsK_sound : ∀ {vs : List V} {hp : Heap} {K : List D → Heap → Option α}, frzsK vs hp K = some r → ∃ ds hp', frzs hp vs = some (ds, hp') ∧ K ds hp' = some r
  | [], hp, K, h => ⟨_, _, rfl, h⟩
  | v :: vs, hp, K, h => by
    simp only [frzsK] at h
    obtain ⟨d, hp', h1, h2⟩ := frzK_sound h
    obtain ⟨ds, hp'', h3, h4⟩ := frzsK_sound h2
    exact ⟨_, _, by simp only [frzs, h1, h3], h4⟩
end Go.Fw
