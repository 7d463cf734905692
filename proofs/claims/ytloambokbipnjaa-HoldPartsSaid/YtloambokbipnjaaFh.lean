/- Memory, more: loads, stores, new variables. By this session. -/
import Derived.Test.YtloambokbipnjaaFg
set_option linter.unusedVariables false
set_option linter.unusedSimpArgs false
namespace Go.Fw
variable {P : Program}

def BlkRel (c : Cf) (n : Nat) (id : Nat) : Blk → Prop
  | .box cs => (∃ vs e, c.w.heap[c.bk id]? = some (.cells vs e (0, 0)) ∧ vs.size = cs.length ∧
      ∀ (j : Nat) (x : V), cs[j]? = some x → RelV c n x (vs.getD j undef) ∧ (vs.getD j undef).oneCell' = true) ∧ ¬ c.I (c.bk id)
  | .arr wd xs => Arr c id wd xs ∧ ¬ c.I (c.bk id)
  | .fz wd xs => Arr c id wd xs ∧ c.I (c.bk id)
  | .dead => True

theorem RelH.push {c : Cf} {n : Nat} {hp : Heap} (h : RelH c n hp) {id : Nat} {b : Blk} (hid : id < n) (hb : BlkRel c n id b)
    (hinj : b.own = true → ∀ id', id' ≠ id → (lk hp id').own = true → c.bk id ≠ c.bk id') (hK : b.own = true → ¬ c.K (c.bk id)) : RelH c n ((id, b) :: hp) where
  lt := fun id' h' => by
    rw [lk_cons] at h'
    split at h'
    · omega
    · exact h.lt id' h'
  box := fun id' cs h' => by
    rw [lk_cons] at h'
    split at h'
    · rename_i e; subst e; subst h'; exact hb.1
    · exact h.box id' cs h'
  arr := fun id' wd xs h' => by
    rw [lk_cons] at h'
    split at h'
    · rename_i e; subst e; subst h'; exact hb.1
    · exact h.arr id' wd xs h'
  fz := fun id' wd xs h' => by
    rw [lk_cons] at h'
    split at h'
    · rename_i e; subst e; subst h'; exact hb
    · exact h.fz id' wd xs h'
  own := fun id' h' => by
    rw [lk_cons] at h'
    split at h'
    · rename_i e; subst e
      cases b with
      | box cs => exact hb.2
      | arr wd xs => exact hb.2
      | fz wd xs => cases h'
      | dead => cases h'
    · exact h.own id' h'
  inj := fun i j hi hj he => by
    rw [lk_cons] at hi hj
    split at hi
    · rename_i e; subst e
      split at hj
      · rename_i e; exact e
      · rename_i e
        exact absurd he (hinj hi j (fun e' => e e'.symm) hj)
    · rename_i e
      split at hj
      · rename_i e'; subst e'
        exact absurd he.symm (hinj hj i (fun e' => e e'.symm) hi)
      · exact h.inj i j hi hj he
  low := h.low
  ownK := fun id' h' => by
    rw [lk_cons] at h'
    split at h'
    · rename_i e; subst e
      exact hK h'
    · exact h.ownK id' h'
  disj := h.disj
  lowK := h.lowK

theorem RelH.mono {c c' : Cf} {n n' : Nat} {hp : Heap} (h : RelH c n hp) (hx : Ext c n c') (hn : n ≤ n') (hs : ∀ id, (lk hp id).own = true → c'.w.heap[c.bk id]? = c.w.heap[c.bk id]?)
    (hI : ∀ id, (lk hp id).own = true → ¬ c'.I (c.bk id)) (hl : ∀ b, c'.I b → b < c'.w.heap.size) (hd : ∀ b, c'.I b → ¬ c.K b) : RelH c' n' hp where
  lt := fun id h' => Nat.lt_of_lt_of_le (h.lt id h') hn
  box := fun id cs h' => by
    have hid := h.lt id (by rw [h']; simp)
    obtain ⟨vs, e, h1, h2, h3⟩ := h.box id cs h'
    exact ⟨vs, e, by rw [hx.bk id hid, hs id (by rw [h']; rfl)]; exact h1, h2, fun j x hj => ⟨(h3 j x hj).1.mono hx hn, (h3 j x hj).2⟩⟩
  arr := fun id wd xs h' => by
    have hid := h.lt id (by rw [h']; simp)
    exact (h.arr id wd xs h').mono hx hid (hs id (by rw [h']; rfl))
  fz := fun id wd xs h' => by
    have hid := h.lt id (by rw [h']; simp)
    obtain ⟨h1, h2⟩ := h.fz id wd xs h'
    exact ⟨h1.mono hx hid (hx.kept _ h2).2, by rw [hx.bk id hid]; exact (hx.kept _ h2).1⟩
  own := fun id h' => by
    have hid := h.lt id (by intro e; rw [e] at h'; cases h')
    rw [hx.bk id hid]; exact hI id h'
  inj := fun i j hi hj he => by
    have h1 := h.lt i (by intro e; rw [e] at hi; cases hi)
    have h2 := h.lt j (by intro e; rw [e] at hj; cases hj)
    rw [hx.bk i h1, hx.bk j h2] at he
    exact h.inj i j hi hj he
  low := hl
  ownK := fun id h' => by
    have hid := h.lt id (by intro e; rw [e] at h'; cases h')
    rw [hx.bk id hid, hx.K]; exact h.ownK id h'
  disj := fun b hb => by rw [hx.K]; exact hd b hb
  lowK := fun b hb => by rw [hx.K] at hb; exact Nat.lt_of_lt_of_le (h.lowK b hb) hx.size

theorem own_lt {c : Cf} {n : Nat} {hp : Heap} (h : RelH c n hp) {id : Nat} (ho : (lk hp id).own = true) : c.bk id < c.w.heap.size := by
  cases hl : lk hp id with
  | box cs => obtain ⟨vs, e, h1, _⟩ := h.box id cs hl; exact (Array.getElem?_eq_some_iff.1 h1).1
  | arr wd xs => obtain ⟨vs, e, fz, h1, _⟩ := h.arr id wd xs hl; exact (Array.getElem?_eq_some_iff.1 h1).1
  | fz wd xs => rw [hl] at ho; cases ho
  | dead => rw [hl] at ho; cases ho

/-- a new block, which has the next number -/
def Cf.new (c : Cf) (n : Nat) (o : Obj) : Cf := { w := c.w.alloc o, I := c.I, K := c.K, bk := fun id => if id = n then c.w.heap.size else c.bk id, G := c.G }
theorem Cf.new_bk (c : Cf) (n : Nat) (o : Obj) : (c.new n o).bk n = c.w.heap.size := by simp [Cf.new]
theorem ext_new {c : Cf} {n : Nat} {hp : Heap} (h : RelH c n hp) (o : Obj) : Ext c n (c.new n o) where
  size := by simp [Cf.new]
  kept := fun b hb => ⟨hb, heap_alloc_old c.w o b (h.low b hb)⟩
  shape := fun b cs e fz hc => ⟨cs, by rw [← hc]; exact heap_alloc_old c.w o b (Array.getElem?_eq_some_iff.1 hc).1, rfl⟩
  bk := fun id hid => by simp only [Cf.new]; rw [if_neg (by omega)]
  K := rfl
  G := rfl
  keptK := fun b hb => heap_alloc_old c.w o b (h.lowK b hb)
  os := rfl
  tape := rfl
  output := rfl
theorem relH_new {c : Cf} {n : Nat} {hp : Heap} (h : RelH c n hp) (o : Obj) {b : Blk} (hb : BlkRel (c.new n o) (n + 1) n b) : RelH (c.new n o) (n + 1) ((n, b) :: hp) := by
  have h1 : RelH (c.new n o) (n + 1) hp := h.mono (ext_new h o) (Nat.le_succ n) (fun id ho => heap_alloc_old c.w o _ (own_lt h ho)) (fun id ho => h.own id ho)
    (fun b hb => by have := h.low b hb; simp [Cf.new]; omega) h.disj
  refine h1.push (Nat.lt_succ_self n) hb (fun _ id' hne ho => ?_) (fun _ hK => by rw [Cf.new_bk] at hK; have := h.lowK _ hK; omega)
  have hlt := h.lt id' (by intro e; rw [e] at ho; cases ho)
  rw [Cf.new_bk, (ext_new h o).bk id' hlt]
  have := own_lt h ho
  omega

/-- what comes of an operation -/
structure Outs (c : Cf) (n : Nat) (r : V × Nat × Heap) (val : Value) (c' : Cf) : Prop where
  ext : Ext c n c'
  le : n ≤ r.2.1
  heap : RelH c' r.2.1 r.2.2
  rel : RelV c' r.2.1 r.1 val

theorem box_cells {c : Cf} {n : Nat} {hp : Heap} (h : RelH c n hp) (e : TypeId) {cs : List V} {vs : Array Value} (hs : vs.size = cs.length)
    (hr : ∀ (j : Nat) (x : V), cs[j]? = some x → RelV c n x (vs.getD j undef) ∧ (vs.getD j undef).oneCell' = true) :
    Outs c n (.pt n 0, n + 1, (n, .box cs) :: hp) (.pointer (some ⟨c.w.heap.size, 0, none⟩)) (c.new n (.cells vs e)) where
  ext := ext_new h _
  le := Nat.le_succ n
  heap := relH_new h _ ⟨⟨vs, e, by rw [Cf.new_bk]; exact heap_alloc_new c.w _, hs, fun j x hj => ⟨(hr j x hj).1.mono (ext_new h _) (Nat.le_succ n), (hr j x hj).2⟩⟩,
    by rw [Cf.new_bk]; intro hI; have := h.low _ hI; omega⟩
  rel := by rw [← Cf.new_bk c n (.cells vs e)]; exact .pt n 0 (Nat.lt_succ_self n)

theorem box_sound {c : Cf} {n : Nat} {hp : Heap} (h : RelH c n hp) (e : TypeId) {x : V} {v : Value} (hx : RelV c n x v) (hok : okC x = true) :
    ∃ val c', (Instr.box e v).run P c.w = .ok val c'.w ∧ Outs c n (.pt n 0, n + 1, (n, .box x.cells) :: hp) val c' := by
  obtain ⟨hs, hr⟩ := cells_rel hx hok
  exact ⟨_, _, by simp [Instr.box, newVar, newRow, Cf.new], box_cells h e hs hr⟩

theorem alloc_sound {c : Cf} {n : Nat} {hp : Heap} (h : RelH c n hp) {e : TypeId} {z : D} (hz : zeroD P e = some z) (ht : ∀ vs, z ≠ .tp vs) :
    ∃ val c', (Instr.alloc e true (.tuple #[])).run P c.w = .ok val c'.w ∧ Outs c n (.pt n 0, n + 1, (n, .box (z.cells.map .d)) :: hp) val c' := by
  obtain ⟨i, zv, hi, hzv, hzd, hzr⟩ := zeroD_val hz
  have hrel := ofValueD_rel c.w c.I hzd
  have hok : okC (.d z) = true := by
    cases z <;> first | rfl | exact absurd rfl (ht _)
  obtain ⟨hs, hr⟩ := cells_rel (c := c) (n := n) (.d _ _ hrel) hok
  have he : (V.d z).cells = z.cells.map .d := by
    cases z <;> rfl
  rw [he] at hs hr
  exact ⟨_, _, by simp [Instr.alloc, hzr, newVar, newRow, Cf.new], box_cells h e hs hr⟩

theorem loadVar_part {t : TypeId} {w : World} {b off : Nat} {vs : Array Value} {e : TypeId} {fz : Nat × Nat} (hb : w.heap[b]? = some (.cells vs e fz)) {g : Bool} (ha : aggT P t = some g)
    (hf : if g then off + sz P t ≤ vs.size else off < vs.size) : (loadVar t ⟨b, off, none⟩).run P w = (part t vs off).run P w := by
  obtain ⟨d, hd⟩ := aggT_und ha
  unfold loadVar part
  simp only [Sem.run_bind, run_isAgg ha, Result.andThen_ok, Sem.run_ite]
  cases g with
  | true =>
    simp only [if_true] at hf
    simp only [if_true, Sem.run_bind, run_sizeOf' hd, Result.andThen_ok]
    unfold sz at hf
    have hl : (vs.toList.drop off).take (P.cellsOf t) = (vs.extract off (off + P.cellsOf t)).toList := by simp
    have hlen : ((vs.toList.drop off).take (P.cellsOf t)).length = P.cellsOf t := by simp; omega
    have := run_loadCells_list (P := P) w ⟨b, off, none⟩ ((vs.toList.drop off).take (P.cellsOf t)) (fun j v hj => by
      rw [addr_add _ rfl, cell_of_row w b (off + j) vs e fz hb]
      rw [List.getElem?_take] at hj
      split at hj
      · simpa [List.getElem?_drop] using hj
      · cases hj)
    rw [hlen] at this
    rw [this]
    simp only [Result.andThen_ok, Sem.run_pure]
    rw [hl]
  | false =>
    simp only [Bool.false_eq_true, if_false] at hf ⊢
    have h1 : vs[off]? = some (vs.getD off undef) := by rw [Array.getD_eq_getD_getElem?, Array.getElem?_eq_getElem hf]; rfl
    rw [run_load, cell_of_row w b off vs e fz hb, h1]
    rfl

theorem partD_fits {t : TypeId} {cs : List D} {off : Nat} {x : D} (h : partD P t cs off = some x) : ∃ g, aggT P t = some g ∧ if g then off + sz P t ≤ cs.length else off < cs.length := by
  unfold partD at h
  split at h
  · rename_i ha
    exact ⟨true, ha, Nat.le_of_ble_eq_true (cond_some h).1⟩
  · rename_i ha
    exact ⟨false, ha, (List.getElem?_eq_some_iff.1 h).1⟩
  · cases h
theorem partV_fits {t : TypeId} {cs : List V} {off : Nat} {x : V} (h : partV P t cs off = some x) : ∃ g, aggT P t = some g ∧ if g then off + sz P t ≤ cs.length else off < cs.length := by
  unfold partV at h
  split at h
  · rename_i ha
    exact ⟨true, ha, Nat.le_of_ble_eq_true (cond_some h).1⟩
  · rename_i ha
    exact ⟨false, ha, (List.getElem?_eq_some_iff.1 h).1⟩
  · cases h

theorem part_shift {t : TypeId} {g : Bool} (ha : aggT P t = some g) (vs : Array Value) (base len off : Nat) (hb : base + len ≤ vs.size) (hf : if g then off + sz P t ≤ len else off < len) (w : World) :
    (part t vs (base + off)).run P w = (part t (vs.extract base (base + len)) off).run P w := by
  obtain ⟨d, hd⟩ := aggT_und ha
  unfold part
  simp only [Sem.run_bind, run_isAgg ha, Result.andThen_ok, Sem.run_ite]
  cases g with
  | true =>
    simp only [if_true] at hf
    simp only [if_true, Sem.run_bind, run_sizeOf' hd, Result.andThen_ok, Sem.run_pure]
    unfold sz at hf
    congr 2
    rw [Array.extract_extract]
    congr 1
    omega
  | false =>
    simp only [Bool.false_eq_true, if_false] at hf ⊢
    rw [Array.getElem?_extract, if_pos (by omega)]

theorem loadD_sound {w : World} {I : Mem} {t : TypeId} {cs : List D} {vs : Array Value} {b base off : Nat} {e : TypeId} {fz : Nat × Nat} {x : D} (hp : partD P t cs off = some x)
    (hc : w.heap[b]? = some (.cells vs e fz)) (hb : base + cs.length ≤ vs.size) (h1 : ∀ j : Nat, j < cs.length → (vs.getD (base + j) undef).oneCell' = true)
    (h : ∀ (j : Nat) (d : D), cs[j]? = some d → RelD w I d (vs.getD (base + j) undef)) : ∃ v, (loadVar t ⟨b, base + off, none⟩).run P w = .ok v w ∧ RelD w I x v := by
  obtain ⟨g, ha, hf⟩ := partD_fits hp
  have hf' : if g then base + off + sz P t ≤ vs.size else base + off < vs.size := by
    cases g <;> simp only [Bool.false_eq_true, if_false, if_true] at hf ⊢ <;> omega
  rw [loadVar_part hc ha hf', part_shift ha vs base cs.length off hb hf]
  exact partD_sound hp (by simp; omega) (fun j hj => by rw [getD_extract _ _ _ _ (by omega) hb]; exact h1 j hj) (fun j d hj => by
    have := (List.getElem?_eq_some_iff.1 hj).1
    rw [getD_extract _ _ _ _ (by omega) hb]; exact h j d hj) w

theorem loadV_sound {c : Cf} {n : Nat} {hp : Heap} (hH : RelH c n hp) {t : TypeId} {a r : V} {va : Value} (h : loadV P t hp a = some r) (ha : RelV c n a va) :
    ∃ v, (Instr.loadAt t va).run P c.w = .ok v c.w ∧ RelV c n r v := by
  have elem : ∀ {id wd k o : Nat} {xs : List D} {x : D} {r : V}, Arr c id wd xs → xs[k]? = some x → (partD P t x.cells o).map V.d = some r →
      ∃ v, (loadVar t ⟨c.bk id, k * wd + o, none⟩).run P c.w = .ok v c.w ∧ RelV c n r v := by
    intro id wd k o xs x r hA hk hr
    obtain ⟨vs, e, fz, h1, h2, h3, h4, h5, h6, h7⟩ := hA
    obtain ⟨d, hd, rfl⟩ := Option.map_eq_some_iff.1 hr
    have hlt := (List.getElem?_eq_some_iff.1 hk).1
    have hwx : x.cells.length = wd := h3 x (List.mem_of_getElem? hk)
    have hm : (k + 1) * wd ≤ xs.length * wd := Nat.mul_le_mul_right _ hlt
    rw [Nat.add_mul, Nat.one_mul] at hm
    obtain ⟨v, hv, hrv⟩ := loadD_sound (P := P) (I := c.I) (base := k * wd) hd h1 (by omega) (fun j hj => h6 _ (by omega)) (fun j d hj => h7 k j x d hk hj)
    exact ⟨v, hv, .d _ _ hrv⟩
  unfold loadV at h
  split at h
  · rename_i id off
    cases ha with
    | pt _ _ hid =>
      split at h
      · rename_i cs hl
        obtain ⟨vs, e, h1, h2, h3⟩ := hH.box id cs hl
        obtain ⟨g, hg, hf⟩ := partV_fits h
        obtain ⟨v, hv, hrv⟩ := partV_sound h h2 (fun j hj => (h3 j _ (List.getElem?_eq_getElem hj)).2) (fun j x hj => (h3 j x hj).1) c.w
        refine ⟨v, ?_, hrv⟩
        simp only [Instr.loadAt, Instr.sureAddr, Sem.run_bind, Sem.run_pure, Result.andThen_ok]
        rw [loadVar_part h1 hg (by rw [h2]; exact hf)]
        exact hv
      · cases h
  · rename_i id wd k o
    cases ha with
    | ep _ _ _ _ hid =>
      split at h
      · rename_i w' xs hl
        obtain ⟨hw, h2⟩ := cond_some h
        have hw : wd = w' := by simpa using hw
        subst hw
        split at h2
        · rename_i x hx
          obtain ⟨v, hv, hr⟩ := elem (hH.arr id _ xs hl) hx h2
          exact ⟨v, by simpa [Instr.loadAt, Instr.sureAddr] using hv, hr⟩
        · cases h2
      · rename_i w' xs hl
        obtain ⟨hw, h2⟩ := cond_some h
        have hw : wd = w' := by simpa using hw
        subst hw
        split at h2
        · rename_i x hx
          obtain ⟨v, hv, hr⟩ := elem (hH.fz id _ xs hl).1 hx h2
          exact ⟨v, by simpa [Instr.loadAt, Instr.sureAddr] using hv, hr⟩
        · cases h2
      · cases h
  · rename_i cs o
    cases ha with
    | rp _ _ ad vs e fz hs hI hc ho hb h1 hh =>
      obtain ⟨d, hd, rfl⟩ := Option.map_eq_some_iff.1 h
      obtain ⟨v, hv, hrv⟩ := loadD_sound (P := P) (I := c.I) (base := ad.off - o) hd hc hb h1 hh
      refine ⟨v, ?_, .d _ _ hrv⟩
      simp only [Instr.loadAt, Instr.sureAddr, Sem.run_bind, Sem.run_pure, Result.andThen_ok]
      have : ad = ⟨ad.block, ad.off - o + o, none⟩ := by cases ad; simp_all
      rw [this]
      exact hv
  · cases h

/-! stores -/
def NoFz (vs : Array Value) (fz : Nat × Nat) : Prop := ∀ o, o < vs.size → ¬ (fz.1 ≤ o ∧ o < fz.2)
theorem run_storeCells_row (g o : Nat) (t : TypeId) (fz : Nat × Nat) : ∀ (new : List Value) (i : Nat) (cur : Array Value) (w : World), w.heap[g]? = some (.cells cur t fz) → NoFz cur fz →
    o + i + new.length ≤ cur.size → (∀ v ∈ new, v.oneCell' = true) →
    (storeCells ⟨g, o, none⟩ new i).run P w = .ok () (w.setRow g (lay cur.toList (o + i) new).toArray)
  | [], i, cur, w, hg, _, _, _ => by
    simp only [storeCells, lay, List.append_nil, List.length_nil, Nat.add_zero, List.take_append_drop, Array.toArray_toList]
    rw [setRow_self w g cur t fz hg]
    rfl
  | v :: new, i, cur, w, hg, hn, hl, h1 => by
    simp only [List.length_cons] at hl
    have hlt : o + i < cur.size := by omega
    have hf : w.frozen? ⟨g, o + i, none⟩ = false := by
      have := hn (o + i) hlt
      simp only [World.frozen?, hg]
      simp; omega
    have hst : (store ((⟨g, o, none⟩ : Addr).add i) v).run P w = .ok () (w.setCell ⟨g, o + i, none⟩ v) := by
      rw [addr_add _ rfl]
      show (store ⟨g, o + i, none⟩ v).run P w = _
      rw [run_store P w _ v .plain (h1 v List.mem_cons_self), cell_of_row w g (o + i) cur t fz hg, Array.getElem?_eq_getElem hlt]
      simp [hf]
    have hset : w.setCell ⟨g, o + i, none⟩ v = w.setRow g (cur.setIfInBounds (o + i) v) := by
      unfold World.setCell World.setRow
      congr 1
      apply Array.ext_getElem?
      intro k
      simp only [Array.getElem?_modify]
      by_cases hk : g = k
      · subst hk; simp [hg]
      · simp [hk]
    have ih := run_storeCells_row g o t fz new (i + 1) (cur.setIfInBounds (o + i) v) (w.setRow g (cur.setIfInBounds (o + i) v)) (setRow_heap w g cur _ t fz hg)
      (by intro k hk; exact hn k (by simpa using hk)) (by simp; omega) (fun u hu => h1 u (List.mem_cons_of_mem _ hu))
    simp only [storeCells, Sem.run_bind]
    rw [hst, hset]
    simp only [Result.andThen_ok]
    rw [ih, setRow_setRow]
    congr 2
    congr 1
    apply List.ext_getElem?
    intro k
    rw [lay_get _ _ _ (by simp; omega), lay_get _ _ _ (by simp; omega)]
    simp only [List.length_cons, Array.toList_setIfInBounds]
    by_cases h2 : k = o + i
    · subst h2
      rw [if_neg (by omega), if_pos (by omega), List.getElem?_set_self (by simp; omega)]
      simp
    · by_cases h3 : o + (i + 1) ≤ k ∧ k < o + (i + 1) + new.length
      · rw [if_pos h3, if_pos (by omega), show k - (o + i) = (k - (o + (i + 1))) + 1 from by omega]
        simp
      · rw [if_neg h3, if_neg (by omega), List.getElem?_set_ne (by omega)]

/-- a block of one's own that is written -/
def Cf.wrote (c : Cf) (b : Nat) (vs : Array Value) : Cf := { c with w := c.w.setRow b vs }
theorem ext_wrote {c : Cf} {n b : Nat} {cur vs : Array Value} {e : TypeId} {fz : Nat × Nat} (hb : c.w.heap[b]? = some (.cells cur e fz)) (hs : vs.size = cur.size) (hI : ¬ c.I b) (hK : ¬ c.K b) : Ext c n (c.wrote b vs) where
  size := by simp [Cf.wrote]
  kept := fun k hk => ⟨hk, setRow_other c.w b k vs (fun e => hI (e ▸ hk))⟩
  shape := fun k cs e' fz' hc => by
    by_cases hk : k = b
    · subst hk
      rw [hb] at hc
      injection hc with hc
      injection hc with h1 h2 h3
      subst h1; subst h2; subst h3
      exact ⟨vs, setRow_heap c.w k cur vs e fz hb, hs⟩
    · exact ⟨cs, by rw [← hc]; exact setRow_other c.w b k vs hk, rfl⟩
  bk := fun _ _ => rfl
  K := rfl
  G := rfl
  keptK := fun k hk => setRow_other c.w b k vs (fun e => hK (e ▸ hk))
  os := rfl
  tape := rfl
  output := rfl
/-- what else there is stays -/
theorem relH_wrote {c : Cf} {n : Nat} {hp : Heap} (h : RelH c n hp) {id : Nat} (ho : (lk hp id).own = true) {cur vs : Array Value} {e : TypeId} {fz : Nat × Nat}
    (hb : c.w.heap[c.bk id]? = some (.cells cur e fz)) (hs : vs.size = cur.size) {bl : Blk} (hr : BlkRel (c.wrote (c.bk id) vs) n id bl) (hbo : bl.own = true) : RelH (c.wrote (c.bk id) vs) n ((id, bl) :: hp) := by
  have hx : Ext c n (c.wrote (c.bk id) vs) := ext_wrote hb hs (h.own id ho) (h.ownK id ho)
  have hid : id < n := h.lt id (by intro e; rw [e] at ho; cases ho)
  have hd : RelH c n ((id, .dead) :: hp) := h.push hid trivial (fun h => by cases h) (fun h => by cases h)
  have h1 : RelH (c.wrote (c.bk id) vs) n ((id, .dead) :: hp) := hd.mono hx (Nat.le_refl n) (fun id' ho' => by
      rw [lk_cons] at ho'
      split at ho'
      · cases ho'
      · rename_i hne
        exact setRow_other c.w _ _ vs (fun e => hne (h.inj id id' ho ho' e.symm)))
    (fun id' ho' => hd.own id' ho') (fun b hb => by have := h.low b hb; simpa [Cf.wrote] using this) h.disj
  have h2 := h1.push (b := bl) hid hr (fun _ id' hne ho' => by
      rw [lk_cons, if_neg (fun e => hne e.symm)] at ho'
      exact fun e => hne (h.inj id id' ho ho' e).symm) (fun _ => h.ownK id ho)
  exact ⟨fun id' h' => h2.lt id' (by simp only [lk_cons] at h' ⊢; split <;> simp_all), fun id' cs h' => h2.box id' cs (by simp only [lk_cons] at h' ⊢; split <;> simp_all),
    fun id' a b h' => h2.arr id' a b (by simp only [lk_cons] at h' ⊢; split <;> simp_all), fun id' a b h' => h2.fz id' a b (by simp only [lk_cons] at h' ⊢; split <;> simp_all),
    fun id' h' => h2.own id' (by simp only [lk_cons] at h' ⊢; split <;> simp_all),
    fun i j h' h'' => h2.inj i j (by simp only [lk_cons] at h' ⊢; split <;> simp_all) (by simp only [lk_cons] at h'' ⊢; split <;> simp_all), h2.low, fun id' h' => h2.ownK id' (by simp only [lk_cons] at h' ⊢; split <;> simp_all), h2.disj, h2.lowK⟩

theorem reD_spec {x x' : D} {o : Nat} {ds : List D} (h : reD x o ds = some x') : o + ds.length ≤ x.cells.length ∧ x'.cells = lay x.cells o ds := by
  unfold reD at h
  split at h
  · obtain ⟨hb, h⟩ := cond_some h
    injection h with h; subst h
    exact ⟨Nat.le_of_ble_eq_true hb, rfl⟩
  · rename_i hn
    split at h
    · rename_i d
      obtain ⟨hb, h⟩ := cond_some h
      injection h with h; subst h
      have h1 : x.cells = [x] := by cases x <;> first | rfl | exact absurd rfl (hn _)
      have h2 : d.cells = [d] := by cases d <;> first | rfl | cases hb
      rw [h1, h2]
      exact ⟨by simp, by simp [lay]⟩
    · cases h

theorem allD_get {vs : List V} {ds : List D} (h : allD vs = some ds) {j : Nat} {d : D} (hj : ds[j]? = some d) : vs[j]? = some (.d d) := by
  rw [allD_spec _ _ h, List.getElem?_map, hj]; rfl

theorem lay_getD (vs nv : Array Value) (off : Nat) (h : off + nv.size ≤ vs.size) (j : Nat) :
    (lay vs.toList off nv.toList).toArray.getD j undef = if off ≤ j ∧ j < off + nv.size then nv.getD (j - off) undef else vs.getD j undef := by
  simp only [Array.getD_eq_getD_getElem?, List.getElem?_toArray]
  rw [lay_get _ _ _ (by simpa using h)]
  simp only [Array.length_toList]
  split <;> simp
theorem mul_lt_of_lt {j k wd : Nat} (h : j < k) : j * wd + wd ≤ k * wd := by
  have := Nat.mul_le_mul_right wd h
  rw [Nat.succ_mul] at this
  exact this

theorem storeV_sound {c : Cf} {n : Nat} {hp hp' : Heap} (hH : RelH c n hp) {t : TypeId} {a x : V} {va vx : Value} (h : storeV P t hp a x = some hp') (ha : RelV c n a va) (hx : RelV c n x vx) : ∃ c', (Instr.storeAt t va vx).run P c.w = .ok () c'.w ∧ Ext c n c' ∧ RelH c' n hp' := by
  unfold storeV at h
  obtain ⟨hok, h'⟩ := cond_some h
  clear h
  have h := h'
  clear h'
  rw [Bool.and_eq_true, Bool.and_eq_true] at hok
  obtain ⟨⟨hok, hsz⟩, hpos⟩ := hok
  have hpos := Nat.le_of_ble_eq_true hpos
  unfold sz at hpos
  obtain ⟨i, hi, _⟩ := info_of_sz (P := P) (t := t) (by omega)
  have hsz : x.cells.length = sz P t := by simpa using hsz
  obtain ⟨hcs, hcr⟩ := cells_rel hx hok
  have hrun : ∀ (ad : Addr) (u : World), ad.spot = none → (storeCells ⟨ad.block, ad.off, none⟩ vx.cells.toList 0).run P c.w = .ok () u → (Instr.storeAt t (.pointer (some ad)) vx).run P c.w = .ok () u := by
    intro ad u hs hu
    have he : ad = ⟨ad.block, ad.off, none⟩ := by cases ad; simp_all
    have hne : ¬ (vx.cells.size ≠ i.size) := by
      have : i.size = sz P t := by simp [sz, Program.cellsOf, hi]
      omega
    simp only [Instr.storeAt, Instr.sureAddr, storeVar, sizeOf, typeInfo, Sem.run_bind, Sem.run_pure, Result.andThen_ok, run_program, hi, if_neg hne]
    rw [he]
    exact hu
  have hone : ∀ v ∈ vx.cells.toList, v.oneCell' = true := by
    intro v hv
    obtain ⟨j, hj⟩ := List.mem_iff_getElem?.1 hv
    have hlt := (List.getElem?_eq_some_iff.1 hj).1
    have := (hcr j _ (List.getElem?_eq_getElem (by simp at hlt; omega))).2
    simp only [Array.getElem?_toList] at hj
    rw [Array.getD_eq_getD_getElem?, hj] at this
    exact this
  split at h
  · rename_i id off
    split at h
    · rename_i cs hl
      obtain ⟨hb, h⟩ := cond_some h
      injection h with h; subst h
      have hb := Nat.le_of_ble_eq_true hb
      obtain ⟨cur, e, h1, h2, h3⟩ := hH.box id cs hl
      cases ha with
      | pt _ _ hid =>
        have hst := run_storeCells_row (P := P) (c.bk id) off e (0, 0) vx.cells.toList 0 cur c.w h1 (by intro o ho; simp) (by simp; omega) hone
        have hx' : Ext c n (c.wrote (c.bk id) (lay cur.toList (off + 0) vx.cells.toList).toArray) := ext_wrote h1 (by simp; rw [lay_length _ _ _ (by simp; omega)]; simp) (hH.own id (by rw [hl]; rfl)) (hH.ownK id (by rw [hl]; rfl))
        refine ⟨_, hrun _ _ rfl hst, hx', ?_⟩
        refine relH_wrote hH (by rw [hl]; rfl) h1 (by simp; rw [lay_length _ _ _ (by simp; omega)]; simp) (bl := .box (lay cs off x.cells)) ⟨⟨_, e, setRow_heap c.w _ cur _ e _ h1, ?_, ?_⟩, hH.own id (by rw [hl]; rfl)⟩ rfl
        · simp only [List.size_toArray]
          rw [lay_length _ _ _ (by simp; omega), lay_length _ _ _ (by omega)]
          simpa using h2
        · intro j y hy
          have := lay_rel (off := off) h2 (by omega) hcs h3 hcr j y hy
          exact ⟨this.1.mono hx' (Nat.le_refl n), this.2⟩
    · cases h
  · rename_i id wd k o
    split at h
    · rename_i w' xs hl
      obtain ⟨hw, h2⟩ := cond_some h
      have hw : wd = w' := by simpa using hw
      subst hw
      split at h2
      · rename_i y ds hy hds
        split at h2
        · rename_i y' hre
          injection h2 with h2; subst h2
          obtain ⟨hb, hcells⟩ := reD_spec hre
          obtain ⟨cur, e, fz, h1, hnf, hwd, hw0, hfit, h1c, hrel⟩ := hH.arr id wd xs hl
          have hdl : ds.length = x.cells.length := by rw [allD_spec _ _ hds]; simp
          have hlt := (List.getElem?_eq_some_iff.1 hy).1
          have hwy : y.cells.length = wd := hwd y (List.mem_of_getElem? hy)
          have hm : (k + 1) * wd ≤ xs.length * wd := Nat.mul_le_mul_right _ hlt
          rw [Nat.add_mul, Nat.one_mul] at hm
          have hsize : (lay cur.toList (k * wd + o) vx.cells.toList).length = cur.size := by rw [lay_length _ _ _ (by simp; omega)]; simp
          cases ha with
          | ep _ _ _ _ hid =>
            have hst := run_storeCells_row (P := P) (c.bk id) (k * wd + o) e fz vx.cells.toList 0 cur c.w h1 hnf (by simp; omega) hone
            have hx' : Ext c n (c.wrote (c.bk id) (lay cur.toList (k * wd + o + 0) vx.cells.toList).toArray) := ext_wrote h1 (by simpa using hsize) (hH.own id (by rw [hl]; rfl)) (hH.ownK id (by rw [hl]; rfl))
            refine ⟨_, hrun _ _ rfl hst, hx', ?_⟩
            refine relH_wrote hH (by rw [hl]; rfl) h1 (by simpa using hsize) (bl := .arr wd (xs.set k y')) ⟨⟨_, e, fz, setRow_heap c.w _ cur _ e _ h1, ?_, ?_, hw0, ?_, ?_, ?_⟩, hH.own id (by rw [hl]; rfl)⟩ rfl
            · intro o' ho'; exact hnf o' (by simpa [hsize] using ho')
            · intro z hz
              rcases List.mem_or_eq_of_mem_set hz with hz | hz
              · exact hwd z hz
              · subst hz
                show z.cells.length = wd
                rw [hcells, lay_length _ _ _ hb, hwy]
            · simpa [hsize] using hfit
            · intro j hj
              simp only [List.length_set] at hj
              rw [Nat.add_zero, lay_getD _ _ _ (by omega)]
              split
              · rename_i hc
                exact (hcr _ _ (List.getElem?_eq_getElem (by omega))).2
              · exact h1c j hj
            · intro j k' z d hz hd
              rw [Nat.add_zero, lay_getD _ _ _ (by omega)]
              by_cases hjk : k = j
              · subst hjk
                rw [List.getElem?_set_self hlt] at hz
                injection hz with hz
                subst hz
                rw [hcells, lay_get _ _ _ hb] at hd
                by_cases hc : o ≤ k' ∧ k' < o + ds.length
                · rw [if_pos hc] at hd
                  rw [if_pos (by omega), show k * wd + k' - (k * wd + o) = k' - o from by omega]
                  exact ((hcr _ _ (allD_get hds hd)).1.inv_d).mono hx'.kept
                · rw [if_neg hc] at hd
                  rw [if_neg (by omega)]
                  exact (hrel k k' y d hy hd).mono hx'.kept
              · rw [List.getElem?_set_ne hjk] at hz
                have hk' : k' < wd := by
                  have := (List.getElem?_eq_some_iff.1 hd).1
                  have h' : z.cells.length = wd := hwd z (List.mem_of_getElem? hz)
                  omega
                have hne : ¬ (k * wd + o ≤ j * wd + k' ∧ j * wd + k' < k * wd + o + vx.cells.size) := by
                  rcases Nat.lt_or_gt_of_ne hjk with hlt' | hlt'
                  · have := mul_lt_of_lt (wd := wd) hlt'
                    omega
                  · have := mul_lt_of_lt (wd := wd) hlt'
                    omega
                rw [if_neg hne]
                exact (hrel j k' z d hz hd).mono hx'.kept
        · cases h2
      · cases h2
    · cases h
  · cases h
end Go.Fw
