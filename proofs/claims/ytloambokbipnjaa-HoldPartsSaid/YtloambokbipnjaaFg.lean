/- Memory: new variables, what is read from and written to them. By this session. -/
import Derived.Test.YtloambokbipnjaaFf
set_option linter.unusedVariables false
set_option linter.unusedSimpArgs false
namespace Go.Fw
variable {P : Program}

theorem lay_length {α : Type} (cs new : List α) (off : Nat) (h : off + new.length ≤ cs.length) : (lay cs off new).length = cs.length := by
  simp [lay]; omega
theorem lay_get {α : Type} (cs new : List α) (off : Nat) (h : off + new.length ≤ cs.length) (i : Nat) :
    (lay cs off new)[i]? = if off ≤ i ∧ i < off + new.length then new[i - off]? else cs[i]? := by
  unfold lay
  have h1 : (cs.take off).length = off := by simp; omega
  by_cases ha : i < off
  · rw [if_neg (by omega), List.append_assoc, List.getElem?_append_left (by omega), List.getElem?_take_of_lt ha]
  · by_cases hb : i < off + new.length
    · rw [if_pos ⟨by omega, hb⟩, List.getElem?_append_left (by simp; omega), List.getElem?_append_right (by omega), h1]
    · rw [if_neg (by omega), List.getElem?_append_right (by simp; omega), List.getElem?_drop]
      congr 1
      simp
      omega

theorem foldl_set (new : List Value) : ∀ (off k : Nat) (cs : Array Value), off + k + new.length ≤ cs.size →
    ((new.zipIdx k).foldl (fun cs (p : Value × Nat) => cs.setIfInBounds (off + p.2) p.1) cs).toList = lay cs.toList (off + k) new := by
  induction new with
  | nil => intro off k cs h; simp [lay]
  | cons v new ih =>
    intro off k cs h
    simp only [List.zipIdx_cons, List.foldl_cons]
    simp only [List.length_cons] at h
    rw [ih off (k + 1) _ (by simp; omega)]
    apply List.ext_getElem?
    intro i
    rw [lay_get _ _ _ (by simp; omega), lay_get _ _ _ (by simp; omega)]
    simp only [List.length_cons, Array.toList_setIfInBounds]
    by_cases h1 : i = off + k
    · subst h1
      rw [if_neg (by omega), if_pos (by omega), List.getElem?_set_self (by simp; omega)]
      simp
    · by_cases h2 : off + (k + 1) ≤ i ∧ i < off + (k + 1) + new.length
      · rw [if_pos h2, if_pos (by omega)]
        rw [show i - (off + k) = (i - (off + (k + 1))) + 1 from by omega]
        simp
      · rw [if_neg h2, if_neg (by omega), List.getElem?_set_ne (by omega)]

/-- cells that stand for others, laid over such -/
theorem lay_rel {c : Cf} {n : Nat} {cs new : List V} {vs : Array Value} {nv : Array Value} {off : Nat} (hl : vs.size = cs.length) (hb : off + new.length ≤ cs.length) (hn : nv.size = new.length)
    (h : ∀ (j : Nat) (x : V), cs[j]? = some x → RelV c n x (vs.getD j undef) ∧ (vs.getD j undef).oneCell' = true)
    (hh : ∀ (j : Nat) (x : V), new[j]? = some x → RelV c n x (nv.getD j undef) ∧ (nv.getD j undef).oneCell' = true) :
    ∀ (j : Nat) (x : V), (lay cs off new)[j]? = some x → RelV c n x ((lay vs.toList off nv.toList).toArray.getD j undef) ∧ ((lay vs.toList off nv.toList).toArray.getD j undef).oneCell' = true := by
  intro j x hx
  rw [lay_get _ _ _ hb] at hx
  have hg : (lay vs.toList off nv.toList).toArray.getD j undef = if off ≤ j ∧ j < off + new.length then nv.getD (j - off) undef else vs.getD j undef := by
    simp only [Array.getD_eq_getD_getElem?, List.getElem?_toArray]
    rw [lay_get _ _ _ (by simpa [hn, hl] using hb)]
    simp only [Array.length_toList, hn]
    split <;> simp
  rw [hg]
  split at hx
  · rename_i hc; rw [if_pos hc]; exact hh _ _ hx
  · rename_i hc; rw [if_neg hc]; exact h _ _ hx

theorem fill_sound {c : Cf} {n : Nat} {pl : List (Nat × Nat)} {place : Nat → Option (Nat × Nat)} (hp : ∀ i x, pl[i]? = some x → place i = some x) :
    ∀ (parts : List (Nat × V)) (vparts : List (Nat × Value)) (cs : List V) (vs : Array Value) (r : List V), fillD pl cs parts = some r →
    vparts.length = parts.length → (∀ (j i : Nat) (x : V), parts[j]? = some (i, x) → ∃ v, vparts[j]? = some (i, v) ∧ RelV c n x v) →
    vs.size = cs.length → (∀ (j : Nat) (x : V), cs[j]? = some x → RelV c n x (vs.getD j undef) ∧ (vs.getD j undef).oneCell' = true) →
    ∃ us, Instr.fill place vs vparts = some us ∧ us.size = r.length ∧ ∀ (j : Nat) (x : V), r[j]? = some x → RelV c n x (us.getD j undef) ∧ (us.getD j undef).oneCell' = true
  | [], vparts, cs, vs, r, h, hl, hr, hs, hc => by
    simp only [fillD, Option.some.injEq] at h
    subst h
    cases vparts with
    | nil => exact ⟨vs, rfl, hs, hc⟩
    | cons a b => simp at hl
  | (i, x) :: parts, vparts, cs, vs, r, h, hl, hr, hs, hc => by
    cases vparts with
    | nil => simp at hl
    | cons a vparts =>
      obtain ⟨v, hv, hrv⟩ := hr 0 i x rfl
      simp only [List.getElem?_cons_zero, Option.some.injEq] at hv
      subst hv
      simp only [fillD] at h
      split at h
      · cases h
      · rename_i off size hpl
        obtain ⟨hb, h⟩ := cond_some h
        simp only [Bool.and_eq_true, beq_iff_eq] at hb
        obtain ⟨⟨hok, hsz⟩, hle⟩ := hb
        have hle := Nat.le_of_ble_eq_true hle
        obtain ⟨hcs, hcr⟩ := cells_rel hrv hok
        have hlay := lay_rel (off := off) hs (by omega) hcs hc hcr
        simp only [Instr.fill, hp i _ hpl]
        have hcond : ¬ ((v.cells.size ≠ size || off + v.cells.size > vs.size) = true) := by
          simp; omega
        rw [if_neg hcond]
        have hf := foldl_set v.cells.toList off 0 vs (by simp; omega)
        rw [← Array.foldl_toList, Array.toList_zipIdx]
        have he : (List.foldl (fun cs (x : Value × Nat) => cs.setIfInBounds (off + x.2) x.1) vs (v.cells.toList.zipIdx 0)) = (lay vs.toList off v.cells.toList).toArray := by
          rw [← Array.toList_inj, hf]; simp
        have := fill_sound hp parts vparts (lay cs off x.cells) (lay vs.toList off v.cells.toList).toArray r h (by simpa using hl) (fun j i x hj => by simpa using hr (j + 1) i x (by simpa using hj))
          (by rw [lay_length _ _ _ (by omega)]; simp only [List.size_toArray]; rw [lay_length _ _ _ (by simp; omega)]; simpa using hs) hlay
        rw [← he] at this
        exact this

theorem zeroD_val {t : TypeId} {d : D} (h : zeroD P t = some d) : ∃ i z, P.info? t = some i ∧ i.zero = some z ∧ ofValueD z = some d ∧ ∀ w : World, (zeroValue t).run P w = .ok z w := by
  unfold zeroD at h
  obtain ⟨z, hz, hd⟩ := Option.bind_eq_some_iff.1 h
  obtain ⟨i, hi, hz'⟩ := Option.bind_eq_some_iff.1 hz
  exact ⟨i, z, hi, hz', hd, fun w => by simp [zeroValue, typeInfo, hi, hz']⟩

theorem mapM_sizes {fs : List Field} (h : ∀ f ∈ fs, (P.info? f.type).isSome = true) (w : World) :
    (fs.mapM fun f => do pure (f.offset, ← sizeOf f.type) : Sem (List (Nat × Nat))).run P w = .ok (fs.map fun f => (f.offset, P.cellsOf f.type)) w := by
  induction fs with
  | nil => simp
  | cons f fs ih =>
    have hf := h f (List.mem_cons_self)
    obtain ⟨i, hi⟩ := Option.isSome_iff_exists.1 hf
    have hr : (sizeOf f.type).run P w = .ok (P.cellsOf f.type) w := by simp [sizeOf, typeInfo, hi, Program.cellsOf]
    have ih' := ih (fun g hg => h g (List.mem_cons_of_mem _ hg))
    simp only [List.mapM_cons, Sem.run_bind, hr, Result.andThen_ok, Sem.run_pure, ih', List.map_cons]

theorem buildV_sound {c : Cf} {n : Nat} {t : TypeId} {parts : List (Nat × V)} {vparts : Array (Nat × Value)} {r : V} (h : buildV P t parts = some r)
    (hl : vparts.size = parts.length) (hr : ∀ (j i : Nat) (x : V), parts[j]? = some (i, x) → ∃ v, vparts[j]? = some (i, v) ∧ RelV c n x v) (w : World) :
    ∃ v, (Instr.build t vparts).run P w = .ok v w ∧ RelV c n r v := by
  unfold buildV at h
  split at h
  · rename_i z hz
    obtain ⟨i, zv, hi, hzv, hzd, hzr⟩ := zeroD_val hz
    split at h
    · rename_i pl hpl
      obtain ⟨r', hf, rfl⟩ := Option.map_eq_some_iff.1 h
      have hzrel := ofValueD_rel c.w c.I hzd
      generalize hzz : zv = zv' at hzrel
      cases hzrel with
      | ag _ vs hs h1 hh =>
        subst hzz
        have hc0 : ∀ (j : Nat) (x : V), (z.map V.d)[j]? = some x → RelV c n x (vs.getD j undef) ∧ (vs.getD j undef).oneCell' = true := by
          intro j x hx
          simp only [List.getElem?_map] at hx
          obtain ⟨d, hd, rfl⟩ := Option.map_eq_some_iff.1 hx
          exact ⟨.d _ _ (hh _ _ hd), h1 _ (List.getElem?_eq_some_iff.1 hd).1⟩
        unfold placesT at hpl
        split at hpl
        · rename_i fs hu
          obtain ⟨ha, hpl⟩ := cond_some hpl
          injection hpl with hpl
          subst hpl
          rw [List.all_eq_true] at ha
          obtain ⟨us, hus, hsz, hrel⟩ := fill_sound (c := c) (n := n) (place := fun i => (fs.toList.map fun f => (f.offset, P.cellsOf f.type)).toArray[i]?) (fun i x hx => by simpa [sz] using hx) parts vparts.toList _ vs r' hf (by simpa using hl) (by simpa using hr) (by simpa using hs) hc0
          refine ⟨.agg us, ?_, mkAg_rel _ _ hsz (fun j hj => ?_) (fun j x hx => (hrel j x hx).1)⟩
          · have hm := mapM_sizes (P := P) (fs := fs.toList) (fun f hf => ha f hf) w
            simp only [Instr.build, Sem.run_bind, hzr, Result.andThen_ok, run_underlying hu]
            rw [Array.mapM_eq_mapM_toList]
            simp only [Sem.run_map, hm, Result.andThen_ok, Value.cells]
            rw [hus]
            rfl
          · exact (hrel j _ (List.getElem?_eq_getElem hj)).2
        · rename_i len e hu
          obtain ⟨ha, hpl⟩ := cond_some hpl
          injection hpl with hpl
          subst hpl
          obtain ⟨ie, hie⟩ := Option.isSome_iff_exists.1 ha
          obtain ⟨us, hus, hsz, hrel⟩ := fill_sound (c := c) (n := n) (place := fun i => some (i * P.cellsOf e, P.cellsOf e)) (fun i x hx => by
            simp only [List.getElem?_map, sz] at hx
            obtain ⟨k, hk, rfl⟩ := Option.map_eq_some_iff.1 hx
            rw [List.getElem?_range (by have := (List.getElem?_eq_some_iff.1 hk).1; simpa using this)] at hk
            injection hk with hk
            subst hk
            rfl) parts vparts.toList _ vs r' hf (by simpa using hl) (by simpa using hr) (by simpa using hs) hc0
          refine ⟨.agg us, ?_, mkAg_rel _ _ hsz (fun j hj => ?_) (fun j x hx => (hrel j x hx).1)⟩
          · simp only [Instr.build, Sem.run_bind, hzr, Result.andThen_ok, run_underlying hu, sizeOf, typeInfo, run_program, hie, Sem.run_pure, Value.cells]
            have : ie.size = P.cellsOf e := by simp [Program.cellsOf, hie]
            rw [this, hus]
            rfl
          · exact (hrel j _ (List.getElem?_eq_getElem hj)).2
        · cases hpl
    · cases h
  · cases h
end Go.Fw
