/- The operations that look at nothing but their operands do what the plain evaluator says. By this session. -/
import Derived.Test.YtloambokbipnjaaFb
set_option linter.unusedVariables false
set_option linter.unusedSimpArgs false
namespace Go.Fw
variable {P : Program}

theorem info_of_cells {t : TypeId} {d : TypeDesc} (h : P.underlying t = some d) : ∃ i, P.info? t = some i ∧ i.size = P.cellsOf t := by
  unfold Program.underlying at h
  unfold Program.cellsOf
  cases hi : P.info? t with
  | none => rw [hi] at h; cases h
  | some i => exact ⟨i, rfl, rfl⟩
theorem run_sizeOf' {t : TypeId} {d : TypeDesc} (h : P.underlying t = some d) (w : World) : (sizeOf t).run P w = .ok (P.cellsOf t) w := by
  obtain ⟨i, hi, hs⟩ := info_of_cells h
  simp [sizeOf, typeInfo, hi, hs]
theorem run_isAgg {t : TypeId} {b : Bool} (h : aggT P t = some b) (w : World) : (isAgg t).run P w = .ok b w := by
  unfold aggT at h
  unfold isAgg
  cases hu : P.underlying t with
  | none => rw [hu] at h; cases h
  | some d =>
    rw [hu] at h
    simp only [Sem.run_bind, run_underlying hu, Result.andThen_ok]
    cases d <;> simp_all
theorem aggT_und {t : TypeId} {b : Bool} (h : aggT P t = some b) : ∃ d, P.underlying t = some d := by
  unfold aggT at h
  cases hu : P.underlying t with
  | none => rw [hu] at h; cases h
  | some d => exact ⟨d, rfl⟩

theorem getD_extract (vs : Array Value) (a b j : Nat) (h : j < b - a) (hb : b ≤ vs.size) : (vs.extract a b).getD j undef = vs.getD (a + j) undef := by
  simp only [Array.getD_eq_getD_getElem?, Array.getElem?_extract]
  rw [if_pos (by omega)]

theorem partD_sound {w : World} {I : Mem} {t : TypeId} {cs : List D} {vs : Array Value} {off : Nat} {x : D} (hp : partD P t cs off = some x)
    (hl : vs.size = cs.length) (h1 : ∀ j : Nat, j < cs.length → (vs.getD j undef).oneCell' = true) (h : ∀ (j : Nat) (d : D), cs[j]? = some d → RelD w I d (vs.getD j undef)) (w' : World) :
    ∃ v, (part t vs off).run P w' = .ok v w' ∧ RelD w I x v := by
  unfold partD at hp
  split at hp
  · rename_i ha
    obtain ⟨d, hd⟩ := aggT_und ha
    by_cases hb : Nat.ble (off + sz P t) cs.length = true
    · rw [hb] at hp
      simp only [cond_true, Option.some.injEq] at hp
      subst hp
      have hb' := Nat.le_of_ble_eq_true hb
      refine ⟨.agg (vs.extract off (off + sz P t)), ?_, ?_⟩
      · simp [part, run_isAgg ha, run_sizeOf' hd, sz]
      · refine .ag _ _ (by simp; omega) (fun j hj => ?_) (fun j d hj => ?_)
        · simp only [List.length_take, List.length_drop] at hj
          rw [getD_extract _ _ _ _ (by omega) (by omega)]
          exact h1 _ (by omega)
        · have hlt : j < sz P t := by
            have := (List.getElem?_eq_some_iff.1 hj).1
            simp only [List.length_take, List.length_drop] at this
            omega
          rw [getD_extract _ _ _ _ (by omega) (by omega)]
          rw [List.getElem?_take_of_lt hlt, List.getElem?_drop] at hj
          exact h _ _ hj
    · rw [Bool.eq_false_iff.mpr hb] at hp
      cases hp
  · rename_i ha
    obtain ⟨hlt, _⟩ := List.getElem?_eq_some_iff.1 hp
    refine ⟨vs.getD off undef, ?_, h _ _ hp⟩
    have : vs[off]? = some (vs.getD off undef) := by simp [Array.getD_eq_getD_getElem?, Array.getElem?_eq_getElem (show off < vs.size by omega)]
    simp only [part, Sem.run_bind, run_isAgg ha, Result.andThen_ok, Bool.false_eq_true, if_false]
    rw [this]; rfl
  · cases hp

theorem partV_sound {c : Cf} {n : Nat} {t : TypeId} {cs : List V} {vs : Array Value} {off : Nat} {x : V} (hp : partV P t cs off = some x)
    (hl : vs.size = cs.length) (h1 : ∀ j : Nat, j < cs.length → (vs.getD j undef).oneCell' = true) (h : ∀ (j : Nat) (d : V), cs[j]? = some d → RelV c n d (vs.getD j undef)) (w' : World) :
    ∃ v, (part t vs off).run P w' = .ok v w' ∧ RelV c n x v := by
  unfold partV at hp
  split at hp
  · rename_i ha
    obtain ⟨d, hd⟩ := aggT_und ha
    by_cases hb : Nat.ble (off + sz P t) cs.length = true
    · rw [hb] at hp
      simp only [cond_true, Option.some.injEq] at hp
      subst hp
      have hb' := Nat.le_of_ble_eq_true hb
      refine ⟨.agg (vs.extract off (off + sz P t)), ?_, ?_⟩
      · simp [part, run_isAgg ha, run_sizeOf' hd, sz]
      · refine mkAg_rel _ _ (by simp; omega) (fun j hj => ?_) (fun j d hj => ?_)
        · simp only [List.length_take, List.length_drop] at hj
          rw [getD_extract _ _ _ _ (by omega) (by omega)]
          exact h1 _ (by omega)
        · have hlt : j < sz P t := by
            have := (List.getElem?_eq_some_iff.1 hj).1
            simp only [List.length_take, List.length_drop] at this
            omega
          rw [getD_extract _ _ _ _ (by omega) (by omega)]
          rw [List.getElem?_take_of_lt hlt, List.getElem?_drop] at hj
          exact h _ _ hj
    · rw [Bool.eq_false_iff.mpr hb] at hp
      cases hp
  · rename_i ha
    obtain ⟨hlt, _⟩ := List.getElem?_eq_some_iff.1 hp
    refine ⟨vs.getD off undef, ?_, h _ _ hp⟩
    have : vs[off]? = some (vs.getD off undef) := by simp [Array.getD_eq_getD_getElem?, Array.getElem?_eq_getElem (show off < vs.size by omega)]
    simp only [part, Sem.run_bind, run_isAgg ha, Result.andThen_ok, Bool.false_eq_true, if_false]
    rw [this]; rfl
  · cases hp

/-! ### equality -/
theorem eqLeaf_sound {w : World} {I : Mem} {t : TypeId} {x y : D} {vx vy : Value} {r : Bool} (h : eqLeaf P t x y = some r) (hx : RelD w I x vx) (hy : RelD w I y vy) (d : Nat) (w' : World) :
    (Op.equalIn (d + 1) t vx vy).run P w' = .ok r w' := by
  unfold eqLeaf at h
  split at h
  case h_2 hu =>
    rename_i k a k' a'
    by_cases hk : k = k'
    · subst hk
      simp only [decide_true, cond_true, Option.some.injEq] at h
      subst h
      cases hx; cases hy
      simp [Op.equalIn, run_underlying hu]
    · simp [hk] at h
  all_goals first
    | (rename_i hu; injection h with h; subst h; cases hx; cases hy; simp [Op.equalIn, run_underlying hu, beq_toListBytes]; done)
    | cases h

theorem eqFlds_sound {w : World} {I : Mem} {eq : TypeId → D → D → Option Bool} {d : Nat} {xs ys : List D} {us vs : Array Value}
    (heq : ∀ t x y r vx vy, eq t x y = some r → RelD w I x vx → RelD w I y vy → ∀ w', (Op.equalIn d t vx vy).run P w' = .ok r w')
    (hlx : us.size = xs.length) (h1x : ∀ j : Nat, j < xs.length → (us.getD j undef).oneCell' = true) (hx : ∀ (j : Nat) (d : D), xs[j]? = some d → RelD w I d (us.getD j undef))
    (hly : vs.size = ys.length) (h1y : ∀ j : Nat, j < ys.length → (vs.getD j undef).oneCell' = true) (hy : ∀ (j : Nat) (d : D), ys[j]? = some d → RelD w I d (vs.getD j undef)) (w' : World) :
    ∀ (fs : List Field) (r : Bool), eqFlds P eq xs ys fs = some r → (Op.eqFields d us vs fs).run P w' = .ok r w'
  | [], r, h => by simp only [eqFlds, Option.some.injEq] at h; subst h; simp [Op.eqFields]
  | f :: fs, r, h => by
    simp only [eqFlds] at h
    simp only [Op.eqFields]
    by_cases hn : f.name ≠ "_"
    · rw [if_pos hn]
      rw [show (f.name != "_") = true from by simpa using hn] at h
      simp only [cond_true] at h
      split at h
      · rename_i x y hpx hpy
        obtain ⟨u, hu, hru⟩ := partD_sound hpx hlx h1x hx w'
        obtain ⟨v, hv, hrv⟩ := partD_sound hpy hly h1y hy w'
        split at h
        · rename_i b hb
          have he := heq _ _ _ _ _ _ hb hru hrv w'
          simp only [Sem.run_bind, hu, hv, he, Result.andThen_ok]
          cases b
          · simp only [cond_false, Option.some.injEq] at h
            subst h
            simp
          · simp only [cond_true] at h
            simpa using eqFlds_sound heq hlx h1x hx hly h1y hy w' fs r h
        · cases h
      · cases h
    · rw [if_neg hn]
      rw [show (f.name != "_") = false from by simpa using hn] at h
      exact eqFlds_sound heq hlx h1x hx hly h1y hy w' fs r h

theorem eqT_sound {w : World} {I : Mem} : ∀ (n : Nat) (t : TypeId) (x y : D) (r : Bool) (vx vy : Value), eqT P n t x y = some r → RelD w I x vx → RelD w I y vy → ∀ (d : Nat) (w' : World), (Op.equalIn (d + n) t vx vy).run P w' = .ok r w'
  | 0, _, _, _, _, _, _, h, _, _, _, _ => by simp [eqT] at h
  | n + 1, t, x, y, r, vx, vy, h, hx, hy, d, w' => by
    simp only [eqT] at h
    split at h
    · rename_i xs ys
      split at h
      · rename_i fs hu
        by_cases hs : P.stoodInHeld t = true
        · rw [hs] at h; cases h
        · have hs' : P.stoodInHeld t = false := by simpa using hs
          rw [hs'] at h
          simp only [cond_false] at h
          cases hx with
          | ag _ us hlx h1x hx =>
            cases hy with
            | ag _ vs hly h1y hy =>
              have hf : P.underlying t = some (.struct (P.fieldsOf t)) := by simp [Program.fieldsOf, hu]
              have hff : P.fieldsOf t = fs := by simp [Program.fieldsOf, hu]
              rw [show d + (n + 1) = (d + n) + 1 from rfl, run_equalIn_struct w' (d + n) t us vs hf hs', hff]
              exact eqFlds_sound (fun t x y r vx vy h hx hy w' => eqT_sound n t x y r vx vy h hx hy d w') hlx h1x hx hly h1y hy w' fs.toList r h
      · cases h
    · rw [show d + (n + 1) = (d + n) + 1 from rfl]
      exact eqLeaf_sound h hx hy (d + n) w'
end Go.Fw
