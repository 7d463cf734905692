/- Regions whose order is drawn: what each operation sees, and what comes of all. By this session. -/
import Derived.Test.YtloambokbipnjaaFq
set_option linter.unusedVariables false
set_option linter.unusedSimpArgs false
namespace Go.Fw
variable {P : Program}

/-! ### operations only push on memory -/
mutual
theorem frz_suffix : ∀ {v : V} {hp hp' : Heap} {d : D}, frz hp v = some (d, hp') → hp <:+ hp'
  | .d x, hp, hp', d, h => by simp only [frz, Option.some.injEq, Prod.mk.injEq] at h; rw [← h.2]; exact List.suffix_refl _
  | .ag cs, hp, hp', d, h => by
    simp only [frz] at h; split at h
    · rename_i h1; injection h with h; injection h with _ h; subst h; exact frzs_suffix h1
    · cases h
  | .fn f cs, hp, hp', d, h => by
    simp only [frz] at h; split at h
    · rename_i h1; injection h with h; injection h with _ h; subst h; exact frzs_suffix h1
    · cases h
  | .ms id w off len, hp, hp', d, h => by
    simp only [frz] at h; split at h
    · cases hb : (Nat.ble (off + len) _ && _) <;> rw [hb] at h
      · cases h
      · injection h with h; injection h with _ h; subst h; exact List.suffix_cons _ _
    · cases hb : (Nat.ble (off + len) _ && _) <;> rw [hb] at h
      · cases h
      · injection h with h; injection h with _ h; subst h; exact List.suffix_refl _
    · cases h
  | .fl w xs, hp, hp', d, h => by simp only [frz, Option.some.injEq, Prod.mk.injEq] at h; rw [← h.2]; exact List.suffix_refl _
  | .tp _, hp, hp', d, h => by simp [frz] at h
  | .pt _ _, hp, hp', d, h => by simp [frz] at h
  | .ep _ _ _ _, hp, hp', d, h => by simp [frz] at h
  | .rp _ _, hp, hp', d, h => by simp [frz] at h
  | .junk, hp, hp', d, h => by simp [frz] at h
theorem frzs_suffix : ∀ {vs : List V} {hp hp' : Heap} {ds : List D}, frzs hp vs = some (ds, hp') → hp <:+ hp'
  | [], hp, hp', d, h => by simp only [frzs, Option.some.injEq, Prod.mk.injEq] at h; rw [← h.2]; exact List.suffix_refl _
  | v :: vs, hp, hp', d, h => by
    simp only [frzs] at h; split at h
    · rename_i h1
      split at h
      · rename_i h2; injection h with h; injection h with _ h; subst h; exact (frz_suffix h1).trans (frzs_suffix h2)
      · cases h
    · cases h
end
theorem frzParts_suffix : ∀ {vs : List (Nat × V)} {hp hp' : Heap} {ds : List (Nat × D)}, frzParts hp vs = some (ds, hp') → hp <:+ hp'
  | [], hp, hp', d, h => by simp only [frzParts, Option.some.injEq, Prod.mk.injEq] at h; rw [← h.2]; exact List.suffix_refl _
  | (i, v) :: vs, hp, hp', d, h => by
    simp only [frzParts] at h; split at h
    · rename_i h1
      split at h
      · rename_i h2; injection h with h; injection h with _ h; subst h; exact (frz_suffix h1).trans (frzParts_suffix h2)
      · cases h
    · cases h
theorem impTop_suffix (n : Nat) (hp : Heap) (d : D) : hp <:+ (impTop n hp d).2.2 := by
  cases d <;> first | exact List.suffix_refl _ | exact List.suffix_cons _ _
theorem impTops_suffix : ∀ (ds : List D) (n : Nat) (hp : Heap), hp <:+ (impTops n hp ds).2.2
  | [], n, hp => List.suffix_refl _
  | d :: ds, n, hp => (impTop_suffix n hp d).trans (impTops_suffix ds _ _)
theorem impD_suffix (n : Nat) (hp : Heap) (d : D) : hp <:+ (impD n hp d).2.2 := by
  cases d <;> first | exact impTops_suffix _ _ _ | exact impTop_suffix _ _ _
theorem callV_suffix {h : Hs} (hc : ∀ g xs n hp, h.call g xs n hp = none) {g : FuncId} {xs : List V} {n : Nat} {hp : Heap} {r : V × Nat × Heap} (he : callV h g xs n hp = some r) : hp <:+ r.2.2 := by
  unfold callV at he
  split at he
  · rename_i h1
    split at he
    · split at he
      · injection he with he; subst he; exact frzs_suffix h1
      · cases he
    · split at he
      · injection he with he; subst he; exact (frzs_suffix h1).trans (impD_suffix _ _ _)
      · cases he
  · split at he
    · cases he
    · rw [hc] at he; cases he
theorem calleeV_suffix {h : Hs} (hc : ∀ g xs n hp, h.call g xs n hp = none) {f : Slots} {o : Operand} {xs : List V} {n : Nat} {hp : Heap} {r : V × Nat × Heap} (he : calleeV h f o xs n hp = some r) : hp <:+ r.2.2 := by
  unfold calleeV at he
  split at he
  · exact callV_suffix hc he
  · exact callV_suffix hc he
  · cases he
theorem storeV_suffix {t : TypeId} {hp hp' : Heap} {a v : V} (he : storeV P t hp a v = some hp') : hp <:+ hp' := by
  unfold storeV at he
  replace he := (cond_some he).2
  split at he
  · split at he
    · replace he := (cond_some he).2
      injection he with he; subst he; exact List.suffix_cons _ _
    · cases he
  · split at he
    · replace he := (cond_some he).2
      split at he
      · split at he
        · injection he with he; subst he; exact List.suffix_cons _ _
        · cases he
      · cases he
    · cases he
  · cases he
theorem pure1_suffix {n : Nat} {hp : Heap} {v : Option V} {r : V × Nat × Heap} (he : pure1 n hp v = some r) : hp <:+ r.2.2 := by
  unfold pure1 at he
  split at he
  · injection he with he; subst he; exact List.suffix_refl _
  · cases he
theorem buildSliceV_suffix {t : TypeId} {len n : Nat} {hp : Heap} {ps : List (Nat × V)} {r : V × Nat × Heap} (he : buildSliceV P t len n hp ps = some r) : hp <:+ r.2.2 := by
  unfold buildSliceV at he
  split at he
  · split at he
    · split at he
      · rename_i h1
        replace he := (cond_some he).2
        split at he
        · injection he with he; subst he; exact (frzParts_suffix h1).trans (List.suffix_cons _ _)
        · cases he
      · cases he
    · cases he
  · cases he
theorem makeSliceV_suffix {t : TypeId} {l c : V} {n : Nat} {hp : Heap} {r : V × Nat × Heap} (he : makeSliceV P t l c n hp = some r) : hp <:+ r.2.2 := by
  unfold makeSliceV at he
  split at he
  · split at he
    · replace he := (cond_some he).2
      injection he with he; subst he; exact List.suffix_cons _ _
    · cases he
  · cases he
theorem appendV_suffix {t u : TypeId} {s x : V} {n : Nat} {hp : Heap} {r : V × Nat × Heap} (he : appendV P t u s x n hp = some r) : hp <:+ r.2.2 := by
  unfold appendV at he
  split at he
  · split at he
    · replace he := (cond_some he).2
      split at he
      · split at he
        · split at he <;> first | (injection he with he; subst he; exact List.suffix_refl _) | (cases he; done)
        · replace he := (cond_some he).2
          split at he
          · replace he := (cond_some he).2
            injection he with he; subst he; exact List.suffix_cons _ _
          · replace he := (cond_some he).2
            injection he with he; subst he; exact List.suffix_cons _ _
          · split at he
            · replace he := (cond_some he).2
              injection he with he; subst he; exact ⟨[_, _], rfl⟩
            · cases he
          · cases he
      · cases he
    · cases he
  · cases he
theorem evOp_suffix {h : Hs} (hc : ∀ g xs n hp, h.call g xs n hp = none) {o : Oper} {f : Slots} {n : Nat} {hp : Heap} {r : V × Nat × Heap} (he : evOp P h o f n hp = some r) : hp <:+ r.2.2 := by
  have hv : ∀ {v : V} {r : V × Nat × Heap}, some (v, n, hp) = some r → hp <:+ r.2.2 := by
    intro v r h; injection h with h; subst h; exact List.suffix_refl _
  unfold evOp at he
  split at he
  · exact hv he
  · exact hv he
  · split at he
    · exact hv he
    · cases he
  · exact pure1_suffix he
  · exact pure1_suffix he
  · split at he
    · revert he
      generalize strT P _ = b
      intro he
      cases b
      · simp only [cond_false] at he
        split at he
        · replace he := (cond_some he).2
          injection he with he; subst he; exact List.suffix_cons _ _
        · cases he
      · exact pure1_suffix he
    · exact pure1_suffix he
    · split at he
      · replace he := (cond_some he).2
        split at he
        · exact pure1_suffix (cond_some he).2
        · cases he
      · cases he
  · exact pure1_suffix he
  · exact pure1_suffix he
  · exact pure1_suffix he
  · exact pure1_suffix he
  · exact pure1_suffix he
  · split at he <;> first | exact hv he | (cases he; done)
  · exact pure1_suffix he
  · exact hv (cond_some he).2
  · split at he
    · injection he with he; subst he; exact List.suffix_cons _ _
    · cases he
  · replace he := (cond_some he).2
    injection he with he; subst he; exact List.suffix_cons _ _
  · exact pure1_suffix he
  · split at he
    · rename_i hs; injection he with he; subst he; exact storeV_suffix hs
    · cases he
  · exact pure1_suffix he
  · exact buildSliceV_suffix he
  · exact makeSliceV_suffix he
  · split at he
    · split at he
      · exact pure1_suffix he
      · cases he
    · split at he
      · exact appendV_suffix he
      · cases he
    · exact calleeV_suffix hc he
    · cases he
  · cases he
theorem evOper_suffix {h : Hs} (hc : ∀ g xs n hp, h.call g xs n hp = none) {all : List Oper} {o : Oper} {st st' : St} (he : evOper P h all o st = some st') : st.h <:+ st'.h := by
  have hp : ∀ (st : St) (v : V), (st.put o.dst v).h = st.h := by intro st v; cases o.dst <;> rfl
  have h1 : ∀ {st'}, step1 P h o st = some st' → st.h <:+ st'.h := by
    intro st' he
    unfold step1 at he
    split at he
    · rename_i h1
      injection he with he; subst he; rw [hp]; exact evOp_suffix hc h1
    · cases he
  unfold evOper at he
  split at he
  · exact h1 he
  · split at he
    · split at he
      · rename_i x _
        cases hb : (x == _) <;> rw [hb] at he
        · injection he with he; subst he; rw [hp]; exact List.suffix_refl _
        · exact h1 he
      · injection he with he; subst he; rw [hp]; exact List.suffix_refl _
      · cases he
    · cases he
end Go.Fw
