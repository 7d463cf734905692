/- Slices that are built and made; octets and texts. By this session. -/
import Derived.Test.YtloambokbipnjaaFk
import Derived.Laws.MakeOwn
set_option linter.unusedVariables false
set_option linter.unusedSimpArgs false
namespace Go.Fw
variable {P : Program}

theorem dcells_rel {w : World} {I : Mem} {d : D} {v : Value} (h : RelD w I d v) (hok : okC (.d d) = true) :
    v.cells.size = d.cells.length ∧ ∀ (k : Nat) (e : D), d.cells[k]? = some e → RelD w I e (v.cells.getD k undef) ∧ (v.cells.getD k undef).oneCell' = true := by
  have he : (V.d d).cells = d.cells.map .d := by cases d <;> rfl
  obtain ⟨h1, h2⟩ := cells_rel (c := ⟨w, I, fun _ => False, fun _ => 0, fun _ => none⟩) (n := 0) (.d _ _ h) hok
  rw [he] at h1 h2
  refine ⟨by simpa using h1, fun k e hk => ?_⟩
  obtain ⟨h3, h4⟩ := h2 k (.d e) (by simp [hk])
  exact ⟨h3.inv_d, h4⟩

theorem zeros_flat {w : World} {I : Mem} {z : D} {zv : Value} (hz : RelD w I z zv) (hok : okC (.d z) = true) (hpos : 0 < z.width) (len : Nat) :
    Flat w I z.width (List.replicate len z) ((Array.range (len * z.width)).map (zv.cells[· % zv.cells.size]!)) := by
  obtain ⟨h1, h2⟩ := dcells_rel hz hok
  have hs : zv.cells.size = z.width := h1
  have hget : ∀ j : Nat, j < len * z.width → ((Array.range (len * z.width)).map (zv.cells[· % zv.cells.size]!)).getD j undef = zv.cells.getD (j % z.width) undef := by
    intro j hj
    have hlt : j % zv.cells.size < zv.cells.size := Nat.mod_lt _ (by omega)
    rw [Array.getD_eq_getD_getElem?, Array.getElem?_map, Array.getElem?_range, if_pos hj]
    simp only [Option.map_some, Option.getD_some]
    rw [getElem!_pos zv.cells _ hlt, Array.getD_eq_getD_getElem?, ← hs, Array.getElem?_eq_getElem hlt]
    rfl
  have hcell : ∀ k : Nat, k < z.width → RelD w I (z.cells.getD k default) (zv.cells.getD k undef) ∧ (zv.cells.getD k undef).oneCell' = true := by
    intro k hk
    have := h2 k _ (List.getElem?_eq_getElem (by unfold D.width at hk; exact hk))
    rw [List.getD_eq_getElem?_getD, List.getElem?_eq_getElem (by unfold D.width at hk; exact hk)]
    exact this
  refine ⟨by simp, ?_, ?_, ?_⟩
  · intro x hx
    rw [(List.mem_replicate.1 hx).2]
  · intro j hj
    simp only [Array.size_map, Array.size_range] at hj
    rw [hget j hj]
    exact (hcell _ (Nat.mod_lt _ hpos)).2
  · intro j k x d hj hk
    rw [List.getElem?_replicate] at hj
    split at hj
    · rename_i hlt
      injection hj with hj
      subst hj
      have hkw : k < z.width := (List.getElem?_eq_some_iff.1 hk).1
      have := mul_lt_of_lt (wd := z.width) hlt
      rw [hget _ (by omega), Nat.mul_comm, Nat.mul_add_mod, Nat.mod_eq_of_lt hkw]
      exact (h2 k d hk).1
    · cases hj

theorem fillE_sound {w : World} {I : Mem} {wd : Nat} : ∀ (parts : List (Nat × D)) (vparts : List (Nat × Value)) (xs : List D) (us : Array Value) (r : List D), fillE wd xs parts = some r → vparts.length = parts.length →
    (∀ (j i : Nat) (d : D), parts[j]? = some (i, d) → ∃ v, vparts[j]? = some (i, v) ∧ RelD w I d v) → Flat w I wd xs us →
    ∃ us', Instr.fill (fun i => some (i * wd, wd)) us vparts = some us' ∧ Flat w I wd r us' ∧ r.length = xs.length
  | [], vparts, xs, us, r, h, hl, hr, hf => by
    simp only [fillE, Option.some.injEq] at h
    subst h
    cases vparts with
    | nil => exact ⟨us, rfl, hf, rfl⟩
    | cons a b => simp at hl
  | (i, d) :: parts, vparts, xs, us, r, h, hl, hr, hf => by
    cases vparts with
    | nil => simp at hl
    | cons a vparts =>
      obtain ⟨v, hv, hrv⟩ := hr 0 i d rfl
      simp only [List.getElem?_cons_zero, Option.some.injEq] at hv
      subst hv
      simp only [fillE] at h
      obtain ⟨hb, h⟩ := cond_some h
      simp only [Bool.and_eq_true, beq_iff_eq] at hb
      obtain ⟨⟨hok, hwd⟩, hlt⟩ := hb
      have hlt : i < xs.length := Nat.le_of_ble_eq_true hlt
      obtain ⟨hcs, hcr⟩ := dcells_rel hrv hok
      have hcs : v.cells.size = wd := by rw [hcs]; exact hwd
      have hmul := mul_lt_of_lt (wd := wd) hlt
      have hfit : i * wd + v.cells.size ≤ us.size := by rw [hf.1]; omega
      have hlay : Flat w I wd (xs.set i d) (lay us.toList (i * wd) v.cells.toList).toArray := by
        refine ⟨?_, ?_, ?_, ?_⟩
        · simp only [List.size_toArray, List.length_set]
          rw [lay_length _ _ _ (by simpa using hfit)]
          simpa using hf.1
        · intro x hx
          rcases List.mem_or_eq_of_mem_set hx with hx | hx
          · exact hf.2.1 x hx
          · rw [hx]; exact hwd
        · intro j hj
          simp only [List.size_toArray] at hj
          rw [lay_length _ _ _ (by simpa using hfit)] at hj
          rw [lay_getD _ _ _ hfit]
          split
          · exact (hcr _ _ (List.getElem?_eq_getElem (by have h' : d.cells.length = wd := hwd; omega))).2
          · exact hf.2.2.1 j (by simpa using hj)
        · intro j k x e hj hk
          rw [lay_getD _ _ _ hfit, hcs]
          by_cases hji : i = j
          · subst hji
            rw [List.getElem?_set_self hlt] at hj
            injection hj with hj
            subst hj
            have hkw : k < wd := by
              have := (List.getElem?_eq_some_iff.1 hk).1
              have h' : d.cells.length = wd := hwd
              omega
            rw [if_pos (by omega), show i * wd + k - i * wd = k from by omega]
            exact (hcr k e hk).1
          · rw [List.getElem?_set_ne hji] at hj
            have hkw : k < wd := by
              have := (List.getElem?_eq_some_iff.1 hk).1
              have h' : x.cells.length = wd := hf.2.1 x (List.mem_of_getElem? hj)
              omega
            rw [if_neg (by
              rcases Nat.lt_or_gt_of_ne hji with h' | h'
              · have := mul_lt_of_lt (wd := wd) h'; omega
              · have := mul_lt_of_lt (wd := wd) h'; omega)]
            exact hf.2.2.2 j k x e hj hk
      simp only [Instr.fill]
      have hcond : ¬ ((v.cells.size ≠ wd || i * wd + v.cells.size > us.size) = true) := by simp; omega
      rw [if_neg hcond]
      have hfl := foldl_set v.cells.toList (i * wd) 0 us (by simpa using hfit)
      rw [← Array.foldl_toList, Array.toList_zipIdx]
      have he : (List.foldl (fun cs (x : Value × Nat) => cs.setIfInBounds (i * wd + x.2) x.1) us (v.cells.toList.zipIdx 0)) = (lay us.toList (i * wd) v.cells.toList).toArray := by
        rw [← Array.toList_inj, hfl]; simp
      have := fillE_sound parts vparts _ _ r h (by simpa using hl) (fun j i x hj => by simpa using hr (j + 1) i x (by simpa using hj)) hlay
      rw [List.length_set] at this
      rw [← he] at this
      exact this

theorem frzParts_sound {n : Nat} : ∀ (ps : List (Nat × V)) (c : Cf) (hp hp' : Heap) (ds : List (Nat × D)) (vals : List (Nat × Value)), frzParts hp ps = some (ds, hp') → RelH c n hp → vals.length = ps.length →
    (∀ (j i : Nat) (x : V), ps[j]? = some (i, x) → ∃ v, vals[j]? = some (i, v) ∧ RelV c n x v) →
    ∃ c', Frz c n hp hp' c' ∧ ds.length = ps.length ∧ ∀ (j i : Nat) (d : D), ds[j]? = some (i, d) → ∃ v, vals[j]? = some (i, v) ∧ RelD c'.w c'.I d v
  | [], c, hp, hp', ds, vals, h, hH, hlen, hv => by
    simp only [frzParts, Option.some.injEq, Prod.mk.injEq] at h
    obtain ⟨rfl, rfl⟩ := h
    exact ⟨c, .refl hH, rfl, by simp⟩
  | (i, v) :: vs, c, hp, hp', ds, vals, h, hH, hlen, hrel => by
    simp only [frzParts] at h
    split at h
    · rename_i d hp1 h1
      split at h
      · rename_i ds' hp2 h2
        simp only [Option.some.injEq, Prod.mk.injEq] at h
        obtain ⟨rfl, rfl⟩ := h
        obtain ⟨u, hu, hru⟩ := hrel 0 i v rfl
        cases vals with
        | nil => simp at hu
        | cons u' us =>
          simp only [List.getElem?_cons_zero, Option.some.injEq] at hu
          subst hu
          obtain ⟨c1, hF1, hd1⟩ := frz_sound v c hp hp1 d u h1 hH hru
          obtain ⟨c2, hF2, hlen2, hr2⟩ := frzParts_sound vs c1 hp1 hp2 ds' us h2 hF1.heap (by simpa using hlen) (fun j i x hj => by
            obtain ⟨y, hy, hry⟩ := hrel (j + 1) i x (by simpa using hj)
            exact ⟨y, by simpa using hy, hry.mono hF1.ext (Nat.le_refl n)⟩)
          refine ⟨c2, hF1.trans hF2, by simp [hlen2], fun j i' d' hj => ?_⟩
          cases j with
          | zero =>
            simp only [List.getElem?_cons_zero, Option.some.injEq, Prod.mk.injEq] at hj
            obtain ⟨rfl, rfl⟩ := hj
            exact ⟨u, rfl, hd1.mono hF2.ext.kept⟩
          | succ j => simpa using hr2 j i' d' (by simpa using hj)
      · cases h
    · cases h

theorem map_range_zero {α : Type} (f : Nat → α) : (Array.range 0).map f = #[] := Array.eq_empty_of_size_eq_zero (by simp)

theorem buildSliceV_sound {c : Cf} {n : Nat} {hp : Heap} (hH : RelH c n hp) {t : TypeId} {len : Nat} {parts : List (Nat × V)} {vparts : Array (Nat × Value)} {r : V × Nat × Heap} (h : buildSliceV P t len n hp parts = some r)
    (hl : vparts.size = parts.length) (hr : ∀ (j i : Nat) (x : V), parts[j]? = some (i, x) → ∃ v, vparts[j]? = some (i, v) ∧ RelV c n x v) :
    ∃ val c', (Instr.buildSlice t len vparts).run P c.w = .ok val c'.w ∧ Outs c n r val c' := by
  unfold buildSliceV at h
  split at h
  · rename_i e he
    have ht := elemT_und he
    split at h
    · rename_i z hz
      obtain ⟨i, zv, hi, hzv, hzd, hzr⟩ := zeroD_val hz
      split at h
      · rename_i ds hp' hfp
        obtain ⟨hc, h'⟩ := cond_some h
        clear h
        simp only [Bool.and_eq_true, beq_iff_eq] at hc
        obtain ⟨⟨hzw, hw0⟩, hle⟩ := hc
        have hw0 := Nat.le_of_ble_eq_true hw0
        have hle := Nat.le_of_ble_eq_true hle
        have hisz : i.size = sz P e := by simp [sz, Program.cellsOf, hi]
        split at h'
        · rename_i xs hfe
          injection h' with h'
          subst h'
          obtain ⟨c1, hF, hlen, hrel⟩ := frzParts_sound parts c hp hp' ds vparts.toList hfp hH (by simpa using hl) (by simpa using hr)
          have hzrel := ofValueD_rel c1.w c1.I hzd
          have hok : okC (.d z) = true := by
            have := ofValueD_tp hzd
            cases z <;> first | rfl | exact absurd rfl (this _)
          have hflat := zeros_flat hzrel hok (by omega) len
          rw [hzw] at hflat
          obtain ⟨us', hfill, hfl, hxl⟩ := fillE_sound ds vparts.toList _ _ xs hfe (by rw [hlen]; simpa using hl) (by simpa using hrel) hflat
          have hxl : xs.length = len := by rw [hxl]; simp
          have hout := arr_new (rest := #[]) (e := e) hF.heap hw0 hfl (Nat.le_refl _) (by simp [hfl.1]) (0, 0) (by intro o _; simp)
          rw [hxl] at hout
          have hcond : ¬ (len * i.size > 2 ^ 24) := by rw [hisz]; omega
          refine ⟨_, _, ?_, hout.after hF.ext⟩
          have hcells : zv.cells.size = sz P e := by rw [zeroD_size (t := e) (i := i) hzd c.w c.I (ofValueD_tp hzd), hzw]
          have hfill' : Instr.fill (fun i' => some (i' * i.size, i.size)) ((Array.range (len * i.size)).map fun x => zv.cells[x % zv.cells.size]!) vparts.toList = some us' := by rw [hisz]; exact hfill
          have hfill0 : len * i.size = 0 → Instr.fill (fun i' => some (i' * i.size, i.size)) (#[] : Array Value) vparts.toList = some us' := by
            intro h0
            rw [← hfill', h0, map_range_zero]
          simp only [Instr.buildSlice, Sem.run_bind, run_underlying ht, Result.andThen_ok, sizeOf, typeInfo, run_program, hi, Sem.run_pure, if_neg hcond]
          by_cases h0 : len * i.size = 0
          · rw [if_pos h0]
            have : (Array.range (len * i.size)).map (fun x => (#[] : Array Value)[x % (#[] : Array Value).size]!) = #[] := by rw [h0, map_range_zero]
            rw [Sem.run_bind, Sem.run_pure, Result.andThen_ok, this, hfill0 h0]
            simp [newRow, Cf.new, hF.w]
          · rw [if_neg h0]
            rw [Sem.run_bind, hzr, Result.andThen_ok, Sem.run_bind, Sem.run_pure, Result.andThen_ok, hfill']
            simp [newRow, Cf.new, hF.w]
        · cases h'
      · cases h
    · cases h
  · cases h
theorem makeSliceV_sound {c : Cf} {n : Nat} {hp : Heap} (hH : RelH c n hp) {t : TypeId} {l k : V} {vl vk : Value} {r : V × Nat × Heap} (h : makeSliceV P t l k n hp = some r) (hl : RelV c n l vl) (hk : RelV c n k vk) :
    ∃ val c', (Instr.makeSlice t vl vk).run P c.w = .ok val c'.w ∧ Outs c n r val c' := by
  unfold makeSliceV at h
  split at h
  · rename_i e he
    have ht := elemT_und he
    split at h
    · rename_i z k1 a k2 b hz
      obtain ⟨i, zv, hi, hzv, hzd, hzr⟩ := zeroD_val hz
      obtain ⟨hc, h'⟩ := cond_some h
      clear h
      injection h' with h'
      subst h'
      simp only [Bool.and_eq_true, beq_iff_eq, decide_eq_true_eq] at hc
      obtain ⟨⟨⟨⟨⟨h0, h1⟩, h2⟩, h3⟩, hzw⟩, hw0⟩ := hc
      have hw0 := Nat.le_of_ble_eq_true hw0
      cases hl.inv_d
      cases hk.inv_d
      have hisz : i.size = sz P e := by simp [sz, Program.cellsOf, hi]
      have hby : P.bytesOf e = i.bytes := by simp [Program.bytesOf, hi]
      rw [hby] at h2
      have hzrel := ofValueD_rel c.w c.I hzd
      have hok : okC (.d z) = true := by
        have := ofValueD_tp hzd
        cases z <;> first | rfl | exact absurd rfl (this _)
      have hcells : zv.cells.size = z.width := zeroD_size (t := e) (i := i) hzd c.w c.I (ofValueD_tp hzd)
      have hflat := zeros_flat hzrel hok (by omega) a.toNat
      have hflat2 := zeros_flat hzrel hok (by omega) b.toNat
      -- the whole row is noughts; the first part of it stands for the slice
      have hsplit : ∃ us rest, (Array.range (b.toNat * z.width)).map (zv.cells[· % zv.cells.size]!) = us ++ rest ∧ Flat c.w c.I z.width (List.replicate a.toNat z) us := by
        refine ⟨((Array.range (b.toNat * z.width)).map (zv.cells[· % zv.cells.size]!)).extract 0 (0 + (List.replicate a.toNat z).length * z.width), ((Array.range (b.toNat * z.width)).map (zv.cells[· % zv.cells.size]!)).extract ((List.replicate a.toNat z).length * z.width) (b.toNat * z.width), ?_, Flat.of_row (o := 0) ?_ (fun y hy => by rw [(List.mem_replicate.1 hy).2]) (fun j hj => ?_) (fun j k y d hj hd => ?_)⟩
        · have hle : (List.replicate a.toNat z).length * z.width ≤ b.toNat * z.width := Nat.mul_le_mul_right _ (by simp; omega)
          rw [Nat.zero_add, Array.extract_append_extract]
          rw [Nat.min_eq_left (Nat.zero_le _), Nat.max_eq_right hle]
          have : ((Array.range (b.toNat * z.width)).map (zv.cells[· % zv.cells.size]!)).size = b.toNat * z.width := by simp
          generalize (Array.range (b.toNat * z.width)).map (zv.cells[· % zv.cells.size]!) = A at this ⊢
          rw [← this, Array.extract_size]
        · simp
          exact Nat.mul_le_mul_right _ (by omega)
        · have hle : (List.replicate a.toNat z).length * z.width ≤ b.toNat * z.width := Nat.mul_le_mul_right _ (by simp; omega)
          have := hflat2.2.2.1 (0 + j) (by simp only [Array.size_map, Array.size_range]; omega)
          exact this
        · have hlt := (List.getElem?_eq_some_iff.1 hj).1
          rw [List.getElem?_replicate] at hj
          split at hj
          · have := hflat2.2.2.2 j k y d (by rw [List.getElem?_replicate, if_pos (by omega)]; exact hj) hd
            rw [Nat.zero_add]
            exact this
          · cases hj
      obtain ⟨us, rest, hsp, hfl⟩ := hsplit
      have hsz : (us ++ rest).size = b.toNat * z.width := by rw [← hsp]; simp
      have hout := arr_new (n := n) (e := e) hH (by omega) hfl (cap := b.toNat) (by simp; omega) hsz (0, 0) (by intro o _; simp)
      rw [List.length_replicate] at hout
      rw [hzw] at hout
      refine ⟨_, _, ?_, hout⟩
      have hrun := run_make (P := P) c.w t e i zv ht hi hzv k1 k2 a b h0 h1 (by omega) (by omega)
      rw [hrun]
      have hmap : madeCells zv.cells (b.toNat * i.size) = us ++ rest := by rw [hisz, ← hzw]; exact hsp
      rw [hmap]
      rfl
    · cases h
  · cases h
end Go.Fw
