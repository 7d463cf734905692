/- What goes into plain data is written no more; what a call hands back. By this session. -/
import Derived.Test.YtloambokbipnjaaFh
set_option linter.unusedVariables false
set_option linter.unusedSimpArgs false
namespace Go.Fw
variable {P : Program}

/-- what a slice of a numbered block holds, once the block stays -/
theorem arr_sl {c : Cf} {id wd off len cap : Nat} {xs : List D} {a : Addr} (hA : Arr c id wd xs) (hI : c.I (c.bk id)) (hle : off + len ≤ xs.length) (hcap : len ≤ cap) (ha : a.spot = none) (hb : a.block = c.bk id) (ho : a.off = off * wd ∨ cap = 0)
    (hs : ∃ cs e fz, c.w.heap[c.bk id]? = some (.cells cs e fz) ∧ (off + cap) * wd ≤ cs.size ∧ a.off ≤ cs.size) : RelD c.w c.I (.sl wd ((xs.drop off).take len)) (.slice (some a) len cap) := by
  obtain ⟨vs, e, fz, h1, h2, h3, h4, h5, h6, h7⟩ := hA
  obtain ⟨cs, e', fz', g1, g2, g3⟩ := hs
  rw [h1] at g1
  injection g1 with g1
  injection g1 with g1
  subst g1
  have hlen : ((xs.drop off).take len).length = len := by simp; omega
  have hmul : off * wd + len * wd ≤ xs.length * wd := by rw [← Nat.add_mul]; exact Nat.mul_le_mul_right _ hle
  have hget : ∀ j x, ((xs.drop off).take len)[j]? = some x → j < len ∧ xs[off + j]? = some x := by
    intro j x hj
    rw [List.getElem?_take] at hj
    split at hj
    · rw [List.getElem?_drop] at hj; exact ⟨by assumption, hj⟩
    · cases hj
  by_cases hl0 : len = 0
  · subst hl0
    have := RelD.sl (w := c.w) (I := c.I) wd [] a cap vs e fz ha (hb ▸ hI) (by rw [hb]; exact h1) (Nat.zero_le _) (by simp) (by simpa using g3) (by simp) (by simp)
    simpa using this
  · have ho : a.off = off * wd := ho.resolve_right (by omega)
    have := RelD.sl (w := c.w) (I := c.I) wd ((xs.drop off).take len) a cap vs e fz ha (hb ▸ hI) (by rw [hb]; exact h1) (by omega)
      (fun x hx => h3 x (List.mem_of_mem_drop (List.mem_of_mem_take hx))) (by rw [hlen]; omega)
      (fun j hj => by rw [hlen] at hj; rw [ho]; exact h6 _ (by omega))
      (fun j k x d hj hk => by
        have := h7 (off + j) k x d (hget j x hj).2 hk
        rw [Nat.add_mul] at this
        rw [ho]; exact this)
    rw [hlen] at this
    exact this

/-- a block stays from now on -/
def Cf.stay (c : Cf) (b : Nat) : Cf := { c with I := fun k => c.I k ∨ k = b }
theorem ext_stay (c : Cf) (n b : Nat) : Ext c n (c.stay b) :=
  ⟨Nat.le_refl _, fun _ h => ⟨.inl h, rfl⟩, fun _ cs _ _ h => ⟨cs, h, rfl⟩, fun _ _ => rfl, rfl, rfl, fun _ _ => rfl, rfl, rfl, rfl⟩
theorem relH_stay {c : Cf} {n : Nat} {hp : Heap} (h : RelH c n hp) {id wd : Nat} {xs : List D} (hl : lk hp id = .arr wd xs) {b : Blk} (hb : b = .fz wd xs ∨ b = .dead) : RelH (c.stay (c.bk id)) n ((id, b) :: hp) := by
  have hid : id < n := h.lt id (by rw [hl]; simp)
  have ho : (lk hp id).own = true := by rw [hl]; rfl
  have hd : RelH c n ((id, .dead) :: hp) := h.push hid trivial (fun h => by cases h) (fun h => by cases h)
  have h1 : RelH (c.stay (c.bk id)) n ((id, .dead) :: hp) := hd.mono (ext_stay c n _) (Nat.le_refl n) (fun _ _ => rfl)
    (fun id' ho' hI => by
      rcases hI with hI | hI
      · exact hd.own id' ho' hI
      · rw [lk_cons] at ho'
        split at ho'
        · cases ho'
        · rename_i hne
          exact hne (h.inj id' id ho' ho hI).symm)
    (fun k hk => by
      rcases hk with hk | hk
      · exact h.low k hk
      · subst hk; exact own_lt h ho)
    (fun k hk => by
      rcases hk with hk | hk
      · exact h.disj k hk
      · subst hk; exact h.ownK id ho)
  rcases hb with rfl | rfl
  · have hA : Arr (c.stay (c.bk id)) id wd xs := (h.arr id wd xs hl).mono (ext_stay c n _) hid rfl
    have h2 := h1.push (b := .fz wd xs) hid ⟨hA, .inr rfl⟩ (fun h => by cases h) (fun h => by cases h)
    exact ⟨fun id' h' => h2.lt id' (by simp only [lk_cons] at h' ⊢; split <;> simp_all), fun id' cs h' => h2.box id' cs (by simp only [lk_cons] at h' ⊢; split <;> simp_all),
      fun id' a b h' => h2.arr id' a b (by simp only [lk_cons] at h' ⊢; split <;> simp_all), fun id' a b h' => h2.fz id' a b (by simp only [lk_cons] at h' ⊢; split <;> simp_all),
      fun id' h' => h2.own id' (by simp only [lk_cons] at h' ⊢; split <;> simp_all),
      fun i j h' h'' => h2.inj i j (by simp only [lk_cons] at h' ⊢; split <;> simp_all) (by simp only [lk_cons] at h'' ⊢; split <;> simp_all), h2.low, fun id' h' => h2.ownK id' (by simp only [lk_cons] at h' ⊢; split <;> simp_all), h2.disj, h2.lowK⟩
  · exact h1

/-- only memory's standing has turned -/
structure Frz (c : Cf) (n : Nat) (hp hp' : Heap) (c' : Cf) : Prop where
  w : c'.w = c.w
  bk : c'.bk = c.bk
  ext : Ext c n c'
  heap : RelH c' n hp'
  new : ∀ b, c'.I b → c.I b ∨ ∃ id, (lk hp id).own = true ∧ c.bk id = b
  shr : ∀ id, (lk hp' id).own = true → (lk hp id).own = true
theorem Frz.refl {c : Cf} {n : Nat} {hp : Heap} (hH : RelH c n hp) : Frz c n hp hp c := ⟨rfl, rfl, .refl c n, hH, fun _ h => .inl h, fun _ h => h⟩
theorem Frz.trans {c c1 c2 : Cf} {n : Nat} {hp hp1 hp2 : Heap} (h : Frz c n hp hp1 c1) (k : Frz c1 n hp1 hp2 c2) : Frz c n hp hp2 c2 :=
  ⟨k.w.trans h.w, k.bk.trans h.bk, h.ext.trans k.ext (Nat.le_refl n), k.heap, fun b hb => by
    rcases k.new b hb with h1 | ⟨id, h1, h2⟩
    · exact h.new b h1
    · exact .inr ⟨id, h.shr id h1, by rw [← h2, h.bk]⟩, fun id hid => h.shr id (k.shr id hid)⟩
theorem Frz.stay {c : Cf} {n : Nat} {hp : Heap} (hH : RelH c n hp) {id wd : Nat} {xs : List D} (hl : lk hp id = .arr wd xs) : Frz c n hp ((id, .fz wd xs) :: hp) (c.stay (c.bk id)) :=
  ⟨rfl, rfl, ext_stay c n _, relH_stay hH hl (.inl rfl), fun b hb => hb.imp (fun h => h) (fun h => ⟨id, by rw [hl]; rfl, h.symm⟩), fun id' h' => by
    rw [lk_cons] at h'
    split at h'
    · cases h'
    · exact h'⟩

mutual
theorem frz_sound {n : Nat} : ∀ (v : V) (c : Cf) (hp hp' : Heap) (d : D) (val : Value), frz hp v = some (d, hp') → RelH c n hp → RelV c n v val → ∃ c', Frz c n hp hp' c' ∧ RelD c'.w c'.I d val
  | .d x, c, hp, hp', d, val, h, hH, hv => by
    simp only [frz, Option.some.injEq, Prod.mk.injEq] at h
    obtain ⟨rfl, rfl⟩ := h
    exact ⟨c, .refl hH, hv.inv_d⟩
  | .ag cs, c, hp, hp', d, val, h, hH, hv => by
    simp only [frz] at h
    split at h
    · rename_i ds hp1 hf
      simp only [Option.some.injEq, Prod.mk.injEq] at h
      obtain ⟨rfl, rfl⟩ := h
      cases hv with
      | ag _ vs hl h1 hh =>
        obtain ⟨c', hF, hlen, hr⟩ := frzs_sound cs c hp hp1 ds vs.toList hf hH ⟨by simpa using hl, fun j x hj => by
          have hlt := (List.getElem?_eq_some_iff.1 hj).1
          refine ⟨vs.getD j undef, ?_, hh j x hj⟩
          rw [Array.getElem?_toList, Array.getD_eq_getD_getElem?, Array.getElem?_eq_getElem (by omega)]; rfl⟩
        refine ⟨c', hF, .ag ds vs (by omega) (fun j hj => h1 j (by omega)) fun j d hj => ?_⟩
        obtain ⟨v, hv, hrv⟩ := hr j d hj
        rw [Array.getElem?_toList] at hv
        rw [Array.getD_eq_getD_getElem?, hv]; exact hrv
    · cases h
  | .fn g cs, c, hp, hp', d, val, h, hH, hv => by
    simp only [frz] at h
    split at h
    · rename_i ds hp1 hf
      simp only [Option.some.injEq, Prod.mk.injEq] at h
      obtain ⟨rfl, rfl⟩ := h
      cases hv with
      | fn _ _ vs hl hh =>
        obtain ⟨c', hF, hlen, hr⟩ := frzs_sound cs c hp hp1 ds vs.toList hf hH ⟨by simpa using hl, fun j x hj => by
          have hlt := (List.getElem?_eq_some_iff.1 hj).1
          refine ⟨vs.getD j undef, ?_, hh j x hj⟩
          rw [Array.getElem?_toList, Array.getD_eq_getD_getElem?, Array.getElem?_eq_getElem (by omega)]; rfl⟩
        refine ⟨c', hF, .fn g ds vs (by omega) fun j d hj => ?_⟩
        obtain ⟨v, hv, hrv⟩ := hr j d hj
        rw [Array.getElem?_toList] at hv
        rw [Array.getD_eq_getD_getElem?, hv]; exact hrv
    · cases h
  | .ms id w off len, c, hp, hp', d, val, h, hH, hv => by
    simp only [frz] at h
    cases hv with
    | ms _ _ _ _ cap a hid hcap ha hb ho hs =>
      split at h
      · rename_i w' xs hl
        obtain ⟨hc, h'⟩ := cond_some h
        clear h
        simp only [Bool.and_eq_true, beq_iff_eq] at hc
        obtain ⟨hle, rfl⟩ := hc
        have hle := Nat.le_of_ble_eq_true hle
        simp only [Option.some.injEq, Prod.mk.injEq] at h'
        obtain ⟨rfl, rfl⟩ := h'
        have hA : Arr (c.stay (c.bk id)) id w xs := (hH.arr id w xs hl).mono (ext_stay c n _) hid rfl
        exact ⟨c.stay (c.bk id), .stay hH hl, arr_sl hA (.inr rfl) hle hcap ha hb ho hs⟩
      · rename_i w' xs hl
        obtain ⟨hc, h'⟩ := cond_some h
        clear h
        simp only [Bool.and_eq_true, beq_iff_eq] at hc
        obtain ⟨hle, rfl⟩ := hc
        have hle := Nat.le_of_ble_eq_true hle
        simp only [Option.some.injEq, Prod.mk.injEq] at h'
        obtain ⟨rfl, rfl⟩ := h'
        obtain ⟨hA, hI⟩ := hH.fz id w xs hl
        exact ⟨c, .refl hH, arr_sl hA hI hle hcap ha hb ho hs⟩
      · cases h
  | .fl w xs, c, hp, hp', d, val, h, hH, hv => by
    simp only [frz, Option.some.injEq, Prod.mk.injEq] at h
    obtain ⟨rfl, rfl⟩ := h
    cases hv with
    | fl _ _ a hr => exact ⟨c, .refl hH, hr⟩
  | .tp _, c, hp, hp', d, val, h, hH, hv => by simp [frz] at h
  | .pt _ _, c, hp, hp', d, val, h, hH, hv => by simp [frz] at h
  | .ep _ _ _ _, c, hp, hp', d, val, h, hH, hv => by simp [frz] at h
  | .rp _ _, c, hp, hp', d, val, h, hH, hv => by simp [frz] at h
  | .junk, c, hp, hp', d, val, h, hH, hv => by simp [frz] at h
theorem frzs_sound {n : Nat} : ∀ (vs : List V) (c : Cf) (hp hp' : Heap) (ds : List D) (vals : List Value), frzs hp vs = some (ds, hp') → RelH c n hp → RelL c n vs vals →
    ∃ c', Frz c n hp hp' c' ∧ ds.length = vs.length ∧ ∀ (j : Nat) (d : D), ds[j]? = some d → ∃ v, vals[j]? = some v ∧ RelD c'.w c'.I d v
  | [], c, hp, hp', ds, vals, h, hH, hv => by
    simp only [frzs, Option.some.injEq, Prod.mk.injEq] at h
    obtain ⟨rfl, rfl⟩ := h
    exact ⟨c, .refl hH, rfl, by simp⟩
  | v :: vs, c, hp, hp', ds, vals, h, hH, hv => by
    simp only [frzs] at h
    split at h
    · rename_i d hp1 h1
      split at h
      · rename_i ds' hp2 h2
        simp only [Option.some.injEq, Prod.mk.injEq] at h
        obtain ⟨rfl, rfl⟩ := h
        obtain ⟨hlen, hrel⟩ := hv
        obtain ⟨u, hu, hru⟩ := hrel 0 v rfl
        cases vals with
        | nil => simp at hu
        | cons u' us =>
          simp only [List.getElem?_cons_zero, Option.some.injEq] at hu
          subst hu
          obtain ⟨c1, hF1, hd1⟩ := frz_sound v c hp hp1 d u' h1 hH hru
          have hrel' : RelL c1 n vs us := ⟨by simpa using hlen, fun j x hj => by
            obtain ⟨y, hy, hry⟩ := hrel (j + 1) x (by simpa using hj)
            exact ⟨y, by simpa using hy, hry.mono hF1.ext (Nat.le_refl n)⟩⟩
          obtain ⟨c2, hF2, hlen2, hr2⟩ := frzs_sound vs c1 hp1 hp2 ds' us h2 hF1.heap hrel'
          refine ⟨c2, hF1.trans hF2, by simp [hlen2], fun j d' hj => ?_⟩
          cases j with
          | zero =>
            simp only [List.getElem?_cons_zero, Option.some.injEq] at hj
            subst hj
            exact ⟨u', rfl, hd1.mono hF2.ext.kept⟩
          | succ j => simpa using hr2 j d' (by simpa using hj)
      · cases h
    · cases h
end

/-- what a slice holds, cell by cell -/
theorem sliceOf_sound {c : Cf} {n : Nat} {hp : Heap} (hH : RelH c n hp) {x : V} {v : Value} {w : Nat} {ys : List D} (h : sliceOf hp x = some (w, ys)) (hx : RelV c n x v) :
    ∃ ad cap, v = .slice ad ys.length cap ∧ (ad = none → ys = [] ∧ cap = 0) ∧ ∀ a, ad = some a → ys ≠ [] → a.spot = none ∧ ∃ cs e fz, c.w.heap[a.block]? = some (.cells cs e fz) ∧ a.off + ys.length * w ≤ cs.size ∧ (∀ y ∈ ys, y.width = w) ∧
      (∀ j : Nat, j < ys.length * w → (cs.getD (a.off + j) undef).oneCell' = true) ∧ ∀ (j k : Nat) (y d : D), ys[j]? = some y → y.cells[k]? = some d → RelD c.w c.I d (cs.getD (a.off + j * w + k) undef) := by
  have num : ∀ {id off len cap : Nat} {xs : List D} {a : Addr}, Arr c id w xs → off + len ≤ xs.length → len ≤ cap → a.spot = none → a.block = c.bk id → (a.off = off * w ∨ cap = 0) → ys = (xs.drop off).take len →
      ∃ ad cap', Value.slice (some a) len cap = .slice ad ys.length cap' ∧ (ad = none → ys = [] ∧ cap' = 0) ∧ ∀ a, ad = some a → ys ≠ [] → a.spot = none ∧ ∃ cs e fz, c.w.heap[a.block]? = some (.cells cs e fz) ∧ a.off + ys.length * w ≤ cs.size ∧ (∀ y ∈ ys, y.width = w) ∧
      (∀ j : Nat, j < ys.length * w → (cs.getD (a.off + j) undef).oneCell' = true) ∧ ∀ (j k : Nat) (y d : D), ys[j]? = some y → y.cells[k]? = some d → RelD c.w c.I d (cs.getD (a.off + j * w + k) undef) := by
    intro id off len cap xs a hA hle hcap ha hb ho hy
    have hlen : ys.length = len := by rw [hy]; simp; omega
    refine ⟨some a, cap, by rw [hlen], (fun h => by cases h), fun a' ha' hne => ?_⟩
    injection ha' with ha'
    subst ha'
    have hpos : 0 < len := by rw [← hlen]; exact List.length_pos_iff.2 hne
    have ho : a.off = off * w := ho.resolve_right (by omega)
    obtain ⟨vs, e, fz, h1, h2, h3, h4, h5, h6, h7⟩ := hA
    have hmul : off * w + len * w ≤ xs.length * w := by rw [← Nat.add_mul]; exact Nat.mul_le_mul_right _ hle
    refine ⟨ha, vs, e, fz, by rw [hb]; exact h1, by rw [hlen]; omega, fun y hy' => h3 y (by rw [hy] at hy'; exact List.mem_of_mem_drop (List.mem_of_mem_take hy')), fun j hj => by rw [hlen] at hj; rw [ho]; exact h6 _ (by omega), fun j k y d hj hk => ?_⟩
    rw [hy, List.getElem?_take] at hj
    split at hj
    · rw [List.getElem?_drop] at hj
      have := h7 (off + j) k y d hj hk
      rw [Nat.add_mul] at this
      rw [ho]; exact this
    · cases hj
  unfold sliceOf at h
  split at h
  · injection h with h
    injection h with h1 h2
    subst h1; subst h2
    cases hx.inv_d with
    | sl _ _ a cap cs e fz hs hI hc hcap hw hb h1 hh =>
      exact ⟨some a, cap, rfl, (fun h => by cases h), fun a' ha' _ => by injection ha' with ha'; subst ha'; exact ⟨hs, cs, e, fz, hc, hb, hw, h1, hh⟩⟩
  · injection h with h
    injection h with h1 h2
    subst h1; subst h2
    cases hx.inv_d
    exact ⟨none, 0, rfl, fun _ => ⟨rfl, rfl⟩, fun a h => by cases h⟩
  · injection h with h
    injection h with h1 h2
    subst h1; subst h2
    cases hx with
    | fl _ _ a hr =>
      cases hr with
      | sl _ _ _ cap cs e fz hs hI hc hcap hw hb h1 hh =>
        exact ⟨some a, _, rfl, (fun h => by cases h), fun a' ha' _ => by injection ha' with ha'; subst ha'; exact ⟨hs, cs, e, fz, hc, hb, hw, h1, hh⟩⟩
  · rename_i id w0 off len
    cases hx with
    | ms _ _ _ _ cap a hid hcap ha hb ho hs =>
      split at h
      · rename_i w' xs hl
        obtain ⟨hc, h'⟩ := cond_some h
        clear h
        simp only [Bool.and_eq_true, beq_iff_eq] at hc
        obtain ⟨hle, rfl⟩ := hc
        injection h' with h'
        injection h' with h1 h2
        subst h1
        exact num (hH.arr id _ xs hl) (Nat.le_of_ble_eq_true hle) hcap ha hb ho h2.symm
      · rename_i w' xs hl
        obtain ⟨hc, h'⟩ := cond_some h
        clear h
        simp only [Bool.and_eq_true, beq_iff_eq] at hc
        obtain ⟨hle, rfl⟩ := hc
        injection h' with h'
        injection h' with h1 h2
        subst h1
        exact num (hH.fz id _ xs hl).1 (Nat.le_of_ble_eq_true hle) hcap ha hb ho h2.symm
      · cases h
  · cases h
end Go.Fw
