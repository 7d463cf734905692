/- How plain data stand for values in memory, and that this stays so while memory goes on. By this session. -/
import Derived.Test.YtloambokbipnjaaFa
set_option linter.unusedVariables false
namespace Go.Fw

abbrev Mem := Nat → Prop

inductive RelD (w : World) (I : Mem) : D → Value → Prop
  | b (x : Bool) : RelD w I (.b x) (.bool x)
  | i (k : IntKind) (n : Int) : RelD w I (.i k n) (.int k n)
  | s (x : ByteArray) : RelD w I (.s x) (.string x)
  | nsl : RelD w I .nsl (.slice none 0 0)
  | nP : RelD w I .nP (.pointer none)
  | nI : RelD w I .nI .nilIface
  | nF : RelD w I .nF .nilFunc
  | nM : RelD w I .nM (.map none)
  | ag (cs : List D) (vs : Array Value) (hl : vs.size = cs.length) (h1 : ∀ j : Nat, j < cs.length → (vs.getD j undef).oneCell' = true)
      (h : ∀ (j : Nat) (d : D), cs[j]? = some d → RelD w I d (vs.getD j undef)) : RelD w I (.ag cs) (.agg vs)
  | tp (cs : List D) (vs : Array Value) (hl : vs.size = cs.length)
      (h : ∀ (j : Nat) (d : D), cs[j]? = some d → RelD w I d (vs.getD j undef)) : RelD w I (.tp cs) (.tuple vs)
  | fn (f : FuncId) (cs : List D) (vs : Array Value) (hl : vs.size = cs.length)
      (h : ∀ (j : Nat) (d : D), cs[j]? = some d → RelD w I d (vs.getD j undef)) : RelD w I (.fn f cs) (.func (.func f) #[] vs)
  | ifc (t : TypeId) (d : D) (v : Value) (h : RelD w I d v) : RelD w I (.ifc t d) (.iface t v)
  | sl (wd : Nat) (xs : List D) (a : Addr) (cap : Nat) (c : Array Value) (e : TypeId) (fz : Nat × Nat) (hs : a.spot = none) (hI : I a.block)
      (hc : w.heap[a.block]? = some (.cells c e fz)) (hcap : xs.length ≤ cap) (hw : ∀ x ∈ xs, x.width = wd) (hb : a.off + xs.length * wd ≤ c.size)
      (h1 : ∀ j : Nat, j < xs.length * wd → (c.getD (a.off + j) undef).oneCell' = true)
      (h : ∀ (j k : Nat) (x d : D), xs[j]? = some x → x.cells[k]? = some d → RelD w I d (c.getD (a.off + j * wd + k) undef)) :
      RelD w I (.sl wd xs) (.slice (some a) xs.length cap)

/-- memory that stays -/
def Kept (w : World) (I : Mem) (w' : World) (I' : Mem) : Prop := ∀ b, I b → I' b ∧ w'.heap[b]? = w.heap[b]?

theorem RelD.mono {w w' : World} {I I' : Mem} (hk : Kept w I w' I') {d : D} {v : Value} (h : RelD w I d v) : RelD w' I' d v := by
  induction h with
  | b x => exact .b x
  | i k n => exact .i k n
  | s x => exact .s x
  | nsl => exact .nsl
  | nP => exact .nP
  | nI => exact .nI
  | nF => exact .nF
  | nM => exact .nM
  | ag cs vs hl h1 h ih => exact .ag cs vs hl h1 ih
  | tp cs vs hl h ih => exact .tp cs vs hl ih
  | fn f cs vs hl h ih => exact .fn f cs vs hl ih
  | ifc t d v h ih => exact .ifc t d v ih
  | sl wd xs a cap c e fz hs hI hc hcap hw hb h1 h ih => exact .sl wd xs a cap c e fz hs (hk _ hI).1 ((hk _ hI).2.trans hc) hcap hw hb h1 ih

/-- What lies about: memory, what of it stays, where the numbers' blocks are. -/
structure Cf where
  w : World
  I : Mem
  K : Mem
  bk : Nat → Nat
  G : Nat → Option (List D)

inductive RelV (c : Cf) (n : Nat) : V → Value → Prop
  | d (x : D) (v : Value) (h : RelD c.w c.I x v) : RelV c n (.d x) v
  | ag (cs : List V) (vs : Array Value) (hl : vs.size = cs.length) (h1 : ∀ j : Nat, j < cs.length → (vs.getD j undef).oneCell' = true)
      (h : ∀ (j : Nat) (x : V), cs[j]? = some x → RelV c n x (vs.getD j undef)) : RelV c n (.ag cs) (.agg vs)
  | tp (cs : List V) (vs : Array Value) (hl : vs.size = cs.length)
      (h : ∀ (j : Nat) (x : V), cs[j]? = some x → RelV c n x (vs.getD j undef)) : RelV c n (.tp cs) (.tuple vs)
  | fn (f : FuncId) (cs : List V) (vs : Array Value) (hl : vs.size = cs.length)
      (h : ∀ (j : Nat) (x : V), cs[j]? = some x → RelV c n x (vs.getD j undef)) : RelV c n (.fn f cs) (.func (.func f) #[] vs)
  | pt (id off : Nat) (hid : id < n) : RelV c n (.pt id off) (.pointer (some ⟨c.bk id, off, none⟩))
  | ms (id wd off len cap : Nat) (a : Addr) (hid : id < n) (hcap : len ≤ cap) (ha : a.spot = none) (hb : a.block = c.bk id) (ho : a.off = off * wd ∨ cap = 0)
      (hs : ∃ cs e fz, c.w.heap[c.bk id]? = some (.cells cs e fz) ∧ (off + cap) * wd ≤ cs.size ∧ a.off ≤ cs.size) : RelV c n (.ms id wd off len) (.slice (some a) len cap)
  | ep (id wd k o : Nat) (hid : id < n) : RelV c n (.ep id wd k o) (.pointer (some ⟨c.bk id, k * wd + o, none⟩))
  | rp (cs : List D) (o : Nat) (a : Addr) (vs : Array Value) (e : TypeId) (fz : Nat × Nat) (hs : a.spot = none) (hI : c.I a.block) (hc : c.w.heap[a.block]? = some (.cells vs e fz)) (ho : o ≤ a.off)
      (hb : a.off - o + cs.length ≤ vs.size) (h1 : ∀ k : Nat, k < cs.length → (vs.getD (a.off - o + k) undef).oneCell' = true)
      (h : ∀ (k : Nat) (d : D), cs[k]? = some d → RelD c.w c.I d (vs.getD (a.off - o + k) undef)) : RelV c n (.rp cs o) (.pointer (some a))
  | fl (wd : Nat) (xs : List D) (a : Addr) (h : RelD c.w c.I (.sl wd xs) (.slice (some a) xs.length xs.length)) : RelV c n (.fl wd xs) (.slice (some a) xs.length xs.length)
  | junk (v : Value) : RelV c n .junk v

/-- a block that a number has: its cells, none frozen -/
def Arr (c : Cf) (id wd : Nat) (xs : List D) : Prop :=
  ∃ vs e fz, c.w.heap[c.bk id]? = some (.cells vs e fz) ∧ (∀ o, o < vs.size → ¬ (fz.1 ≤ o ∧ o < fz.2)) ∧ (∀ x ∈ xs, x.width = wd) ∧ 0 < wd ∧ xs.length * wd ≤ vs.size ∧
    (∀ j : Nat, j < xs.length * wd → (vs.getD j undef).oneCell' = true) ∧
    ∀ (j k : Nat) (x d : D), xs[j]? = some x → x.cells[k]? = some d → RelD c.w c.I d (vs.getD (j * wd + k) undef)

def Blk.own : Blk → Bool
  | .box _ | .arr _ _ => true
  | _ => false

structure RelH (c : Cf) (n : Nat) (hp : Heap) : Prop where
  lt : ∀ id, lk hp id ≠ .dead → id < n
  box : ∀ id cs, lk hp id = .box cs → ∃ vs e, c.w.heap[c.bk id]? = some (.cells vs e (0, 0)) ∧ vs.size = cs.length ∧
    ∀ (j : Nat) (x : V), cs[j]? = some x → RelV c n x (vs.getD j undef) ∧ (vs.getD j undef).oneCell' = true
  arr : ∀ id wd xs, lk hp id = .arr wd xs → Arr c id wd xs
  fz : ∀ id wd xs, lk hp id = .fz wd xs → Arr c id wd xs ∧ c.I (c.bk id)
  own : ∀ id, (lk hp id).own = true → ¬ c.I (c.bk id)
  inj : ∀ id id', (lk hp id).own = true → (lk hp id').own = true → c.bk id = c.bk id' → id = id'
  low : ∀ b, c.I b → b < c.w.heap.size
  ownK : ∀ id, (lk hp id).own = true → ¬ c.K (c.bk id)
  disj : ∀ b, c.I b → ¬ c.K b
  lowK : ∀ b, c.K b → b < c.w.heap.size

/-- On from one to another one. -/
structure Ext (c : Cf) (n : Nat) (c' : Cf) : Prop where
  size : c.w.heap.size ≤ c'.w.heap.size
  kept : Kept c.w c.I c'.w c'.I
  shape : ∀ (b : Nat) (cs : Array Value) (e : TypeId) (fz : Nat × Nat), c.w.heap[b]? = some (.cells cs e fz) → ∃ cs' : Array Value, c'.w.heap[b]? = some (.cells cs' e fz) ∧ cs'.size = cs.size
  bk : ∀ id, id < n → c'.bk id = c.bk id
  K : c'.K = c.K
  G : c'.G = c.G
  keptK : ∀ b, c.K b → c'.w.heap[b]? = c.w.heap[b]?
  os : c'.w.os = c.w.os
  tape : c'.w.tape = c.w.tape
  output : c'.w.output = c.w.output

theorem Ext.refl (c : Cf) (n : Nat) : Ext c n c := ⟨Nat.le_refl _, fun _ h => ⟨h, rfl⟩, fun _ cs _ _ h => ⟨cs, h, rfl⟩, fun _ _ => rfl, rfl, rfl, fun _ _ => rfl, rfl, rfl, rfl⟩
theorem Ext.trans {a b c : Cf} {n m : Nat} (h : Ext a n b) (k : Ext b m c) (hn : n ≤ m) : Ext a n c where
  size := Nat.le_trans h.size k.size
  kept := fun b' hb => ⟨(k.kept b' (h.kept b' hb).1).1, (k.kept b' (h.kept b' hb).1).2.trans (h.kept b' hb).2⟩
  shape := fun b' cs e fz hc => by
    obtain ⟨cs1, h1, h2⟩ := h.shape b' cs e fz hc
    obtain ⟨cs2, h3, h4⟩ := k.shape b' cs1 e fz h1
    exact ⟨cs2, h3, h4.trans h2⟩
  bk := fun id hid => (k.bk id (by omega)).trans (h.bk id hid)
  K := k.K.trans h.K
  G := k.G.trans h.G
  keptK := fun b' hb => (k.keptK b' (by rw [h.K]; exact hb)).trans (h.keptK b' hb)
  os := k.os.trans h.os
  tape := k.tape.trans h.tape
  output := k.output.trans h.output

theorem RelV.mono {c c' : Cf} {n n' : Nat} (hx : Ext c n c') (hn : n ≤ n') {x : V} {v : Value} (h : RelV c n x v) : RelV c' n' x v := by
  induction h with
  | d x v h => exact .d x v (h.mono hx.kept)
  | ag cs vs hl h1 h ih => exact .ag cs vs hl h1 ih
  | tp cs vs hl h ih => exact .tp cs vs hl ih
  | fn f cs vs hl h ih => exact .fn f cs vs hl ih
  | pt id off hid => rw [← hx.bk id hid]; exact .pt id off (by omega)
  | ms id wd off len cap a hid hcap ha hb ho hs =>
    obtain ⟨cs, e, fz, h1, h2, h5⟩ := hs
    obtain ⟨cs', h3, h4⟩ := hx.shape _ _ _ _ h1
    exact .ms id wd off len cap a (by omega) hcap ha (by rw [hb, hx.bk id hid]) ho ⟨cs', e, fz, by rw [hx.bk id hid]; exact h3, by omega, by omega⟩
  | ep id wd k o hid => rw [← hx.bk id hid]; exact .ep id wd k o (by omega)
  | rp cs o a vs e fz hs hI hc ho hb h1 h =>
    exact .rp cs o a vs e fz hs (hx.kept _ hI).1 ((hx.kept _ hI).2.trans hc) ho hb h1 fun k d hd => (h k d hd).mono hx.kept
  | fl wd xs a h => exact .fl wd xs a (h.mono hx.kept)
  | junk v => exact .junk v

theorem Arr.mono {c c' : Cf} {n : Nat} {id wd : Nat} {xs : List D} (hx : Ext c n c') (hid : id < n) (h : Arr c id wd xs) (hb : c'.w.heap[c.bk id]? = c.w.heap[c.bk id]?) : Arr c' id wd xs := by
  obtain ⟨vs, e, fz, h1, h2, h3, h4, h5, h6, h7⟩ := h
  exact ⟨vs, e, fz, by rw [hx.bk id hid, hb]; exact h1, h2, h3, h4, h5, h6, fun j k x d hj hk => (h7 j k x d hj hk).mono hx.kept⟩

/-- the variables of the program that are told -/
def Glob (c : Cf) : Prop := ∀ g cs, c.G g = some cs → ∃ vs e fz, c.w.heap[g]? = some (.cells vs e fz) ∧ c.I g ∧ vs.size = cs.length ∧ (∀ j : Nat, j < cs.length → (vs.getD j undef).oneCell' = true) ∧
  ∀ (j : Nat) (d : D), cs[j]? = some d → RelD c.w c.I d (vs.getD j undef)
theorem Glob.mono {c c' : Cf} {n : Nat} (hx : Ext c n c') (h : Glob c) : Glob c' := by
  intro g cs hg
  rw [hx.G] at hg
  obtain ⟨vs, e, fz, h1, h2, h3, h4, h5⟩ := h g cs hg
  exact ⟨vs, e, fz, (hx.kept g h2).2.trans h1, (hx.kept g h2).1, h3, h4, fun j d hj => (h5 j d hj).mono hx.kept⟩
structure RelS (c : Cf) (n : Nat) (f : Slots) (t : Array Value) : Prop where
  glob : Glob c
  get : ∀ i, RelV c n (get f i) (t.getD i undef)
def RelL (c : Cf) (n : Nat) (xs : List V) (vs : List Value) : Prop := vs.length = xs.length ∧ ∀ (j : Nat) (x : V), xs[j]? = some x → ∃ v, vs[j]? = some v ∧ RelV c n x v

theorem RelS.mono {c c' : Cf} {n n' : Nat} (hx : Ext c n c') (hn : n ≤ n') {f : Slots} {t : Array Value} (h : RelS c n f t) : RelS c' n' f t := ⟨h.glob.mono hx, fun i => (h.get i).mono hx hn⟩

/-! ### constants -/
theorem ofLeaf_rel (w : World) (I : Mem) {v : Value} {d : D} (h : ofLeaf v = some d) : RelD w I d v ∧ v.oneCell' = true := by
  unfold ofLeaf at h
  split at h <;> first | (injection h with h; subst h; exact ⟨by constructor, rfl⟩) | cases h
theorem allLeaf_rel (w : World) (I : Mem) : ∀ (vs : List Value) (ds : List D), allLeaf vs = some ds → vs.length = ds.length ∧ ∀ (j : Nat) (d : D), ds[j]? = some d → ∃ v, vs[j]? = some v ∧ RelD w I d v ∧ v.oneCell' = true
  | [], ds, h => by simp only [allLeaf, Option.some.injEq] at h; subst h; simp
  | v :: vs, ds, h => by
    simp only [allLeaf] at h
    split at h
    · rename_i d ds' h1 h2
      injection h with h
      subst h
      obtain ⟨a, b⟩ := allLeaf_rel w I vs ds' h2
      refine ⟨by simp [a], fun j d' hj => ?_⟩
      cases j with
      | zero => simp at hj; subst hj; exact ⟨v, rfl, ofLeaf_rel w I h1⟩
      | succ j => simpa using b j d' (by simpa using hj)
    · cases h
theorem ofValueD_rel (w : World) (I : Mem) {v : Value} {d : D} (h : ofValueD v = some d) : RelD w I d v := by
  unfold ofValueD at h
  split at h
  · rename_i cs
    cases hl : allLeaf cs.toList with
    | none => rw [hl] at h; cases h
    | some ds =>
      rw [hl] at h
      simp only [Option.map_some, Option.some.injEq] at h
      subst h
      obtain ⟨a, b⟩ := allLeaf_rel w I _ _ hl
      refine .ag ds cs (by simpa using a) (fun j hj => ?_) (fun j d hj => ?_)
      · obtain ⟨v, hv, _, h1⟩ := b j _ (List.getElem?_eq_getElem hj)
        simp only [Array.getElem?_toList] at hv
        simp [Array.getD_eq_getD_getElem?, hv, h1]
      · obtain ⟨v, hv, h1, _⟩ := b j d hj
        simp only [Array.getElem?_toList] at hv
        simpa [Array.getD_eq_getD_getElem?, hv] using h1
  · exact (ofLeaf_rel w I h).1
theorem ofValue_rel (c : Cf) (n : Nat) (v : Value) : RelV c n (ofValue v) v := by
  unfold ofValue
  split
  · rename_i d h
    exact .d d v (ofValueD_rel _ _ h)
  · exact .junk v
theorem opV_rel {c : Cf} {n : Nat} {f : Slots} {a : Act} (h : RelS c n f a.tmps) (x : Operand) : RelV c n (opV c.G f x) (a.eval x) := by
  cases x with
  | tmp t => exact h.get t
  | const v => exact ofValue_rel c n v
  | global g =>
    simp only [opV]
    split
    · rename_i cs hg
      obtain ⟨vs, e, fz, h1, h2, h3, h4, h5⟩ := h.glob g cs hg
      exact .rp cs 0 ⟨g, 0, none⟩ vs e fz rfl h2 h1 (Nat.zero_le _) (by simp; omega) (fun k hk => by simpa using h4 k hk) (fun k d hd => by simpa using h5 k d hd)
    · exact .junk _
  | func g => exact .d _ _ (.fn g [] #[] rfl (by simp))

theorem get_cons (j : Nat) (v : V) (r : Slots) (i : Nat) : get ((j, v) :: r) i = if j = i then v else get r i := by
  simp only [get]
  by_cases h : j = i
  · simp [h]
  · have h' : (j == i) = false := by simpa using h
    simp [h, h']
theorem lk_cons (j : Nat) (b : Blk) (r : Heap) (i : Nat) : lk ((j, b) :: r) i = if j = i then b else lk r i := by
  simp only [lk]
  by_cases h : j = i
  · simp [h]
  · have h' : (j == i) = false := by simpa using h
    simp [h, h']

theorem RelS.put {c : Cf} {n : Nat} {f : Slots} {a : Act} (h : RelS c n f a.tmps) {x : V} {v : Value} (hv : RelV c n x v) {t : Nat} (ht : t < a.tmps.size) :
    RelS c n ((t, x) :: f) (a.put (some t) v).tmps := by
  refine ⟨h.glob, fun i => ?_⟩
  rw [get_cons]
  by_cases hi : t = i
  · subst hi
    simpa [Act.put, Array.getD_eq_getD_getElem?, ht] using hv
  · rw [if_neg hi]
    have : (a.put (some t) v).tmps.getD i undef = a.tmps.getD i undef := by simp [Act.put, Array.getD_eq_getD_getElem?, hi]
    rw [this]
    exact h.get i

theorem allD_spec : ∀ (vs : List V) (ds : List D), allD vs = some ds → vs = ds.map .d
  | [], ds, h => by simp only [allD, Option.some.injEq] at h; subst h; rfl
  | v :: vs, ds, h => by
    cases v with
    | d x =>
      simp only [allD] at h
      cases hv : allD vs with
      | none => rw [hv] at h; cases h
      | some ds' =>
        rw [hv] at h
        simp only [Option.some.injEq] at h
        subst h
        rw [allD_spec vs ds' hv]; rfl
    | _ => simp [allD] at h
theorem allD_map (ds : List D) : allD (ds.map .d) = some ds := by
  induction ds with
  | nil => rfl
  | cons d ds ih => simp [allD, ih]

theorem RelV.inv_d {c : Cf} {n : Nat} {x : D} {v : Value} (h : RelV c n (.d x) v) : RelD c.w c.I x v := by cases h; assumption

/-- parts that stand for cells make what stands for the whole -/
theorem mkAg_rel {c : Cf} {n : Nat} (cs : List V) (vs : Array Value) (hl : vs.size = cs.length) (h1 : ∀ j : Nat, j < cs.length → (vs.getD j undef).oneCell' = true)
    (h : ∀ (j : Nat) (x : V), cs[j]? = some x → RelV c n x (vs.getD j undef)) : RelV c n (mkAg cs) (.agg vs) := by
  unfold mkAg
  split
  · rename_i ds hd
    have hm := allD_spec _ _ hd
    subst hm
    refine .d _ _ (.ag ds vs (by simpa using hl) (fun j hj => h1 j (by simpa using hj)) fun j d hj => ?_)
    exact (h j (.d d) (by simp [hj])).inv_d
  · exact .ag cs vs hl h1 h
theorem mkTp_rel {c : Cf} {n : Nat} (cs : List V) (vs : Array Value) (hl : vs.size = cs.length)
    (h : ∀ (j : Nat) (x : V), cs[j]? = some x → RelV c n x (vs.getD j undef)) : RelV c n (mkTp cs) (.tuple vs) := by
  unfold mkTp
  split
  · rename_i ds hd
    have hm := allD_spec _ _ hd
    subst hm
    refine .d _ _ (.tp ds vs (by simpa using hl) fun j d hj => ?_)
    exact (h j (.d d) (by simp [hj])).inv_d
  · exact .tp cs vs hl h

theorem RelD.leaf {w : World} {I : Mem} {d : D} {v : Value} (h : RelD w I d v) : (match d with | .ag _ | .tp _ => True | _ => v.oneCell' = true) := by
  cases h <;> trivial

end Go.Fw
