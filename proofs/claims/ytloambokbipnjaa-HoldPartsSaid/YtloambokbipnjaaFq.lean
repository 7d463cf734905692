/- Regions whose order is drawn: whatever the order, what the plain evaluator says. By this session. -/
import Derived.Test.YtloambokbipnjaaFo
import Derived.Orders
set_option linter.unusedVariables false
set_option linter.unusedSimpArgs false
namespace Go.Fw
variable {P : Program}

/-! ### numbers in a value -/
theorem RelV.inB {c : Cf} {n : Nat} {x : V} {v : Value} (h : RelV c n x v) : inB (fun id => Nat.blt id n) x = true := by
  have hs : ∀ (cs : List V) (vs : Array Value), vs.size = cs.length → (∀ (j : Nat) (x : V), cs[j]? = some x → Fw.inB (fun id => Nat.blt id n) x = true) → inBs (fun id => Nat.blt id n) cs = true := by
    intro cs
    induction cs with
    | nil => intro vs _ _; rfl
    | cons x cs ih =>
      intro vs hl hx
      simp only [inBs, Bool.and_eq_true]
      refine ⟨hx 0 x rfl, ih (vs.extract 1 vs.size) (by simp at hl ⊢; omega) fun j y hj => hx (j + 1) y (by simpa using hj)⟩
  induction h with
  | d x v h => rfl
  | ag cs vs hl h1 h ih => exact hs cs vs hl ih
  | tp cs vs hl h ih => exact hs cs vs hl ih
  | fn f cs vs hl h ih => exact hs cs vs hl ih
  | pt id off hid => simpa [Fw.inB, Nat.blt_eq] using hid
  | ms id wd off len cap a hid => simpa [Fw.inB, Nat.blt_eq] using hid
  | ep id wd k o hid => simpa [Fw.inB, Nat.blt_eq] using hid
  | rp => rfl
  | fl => rfl
  | junk v => rfl

theorem inBs_all {p : Nat → Bool} : ∀ {cs : List V}, inBs p cs = true → ∀ (j : Nat) (x : V), cs[j]? = some x → inB p x = true
  | [], _, j, x, hj => by simp at hj
  | y :: cs, h, j, x, hj => by
    simp only [inBs, Bool.and_eq_true] at h
    cases j with
    | zero => simp at hj; subst hj; exact h.1
    | succ j => exact inBs_all h.2 j x (by simpa using hj)

structure ExtW (c c' : Cf) : Prop where
  kept : Kept c.w c.I c'.w c'.I
  shape : ∀ (b : Nat) (cs : Array Value) (e : TypeId) (fz : Nat × Nat), c.w.heap[b]? = some (.cells cs e fz) → ∃ cs' : Array Value, c'.w.heap[b]? = some (.cells cs' e fz) ∧ cs'.size = cs.size
theorem Ext.W {c c' : Cf} {n : Nat} (h : Ext c n c') : ExtW c c' := ⟨h.kept, h.shape⟩

theorem RelV.move {c c' : Cf} {n n' : Nat} (hx : ExtW c c') {p : Nat → Bool} (hp : ∀ id, p id = true → id < n' ∧ c'.bk id = c.bk id) {x : V} {v : Value} (h : RelV c n x v) (hi : Fw.inB p x = true) : RelV c' n' x v := by
  induction h with
  | d x v h => exact .d x v (h.mono hx.kept)
  | ag cs vs hl h1 h ih => exact .ag cs vs hl h1 fun j x hj => ih j x hj (inBs_all hi j x hj)
  | tp cs vs hl h ih => exact .tp cs vs hl fun j x hj => ih j x hj (inBs_all hi j x hj)
  | fn f cs vs hl h ih => exact .fn f cs vs hl fun j x hj => ih j x hj (inBs_all hi j x hj)
  | pt id off hid => rw [← (hp id hi).2]; exact .pt id off (hp id hi).1
  | ms id wd off len cap a hid hcap ha hb ho hs =>
    obtain ⟨cs, e, fz, h1, h2, h5⟩ := hs
    obtain ⟨cs', h3, h4⟩ := hx.shape _ _ _ _ h1
    exact .ms id wd off len cap a (hp id hi).1 hcap ha (by rw [hb, (hp id hi).2]) ho ⟨cs', e, fz, by rw [(hp id hi).2]; exact h3, by omega, by omega⟩
  | ep id wd k o hid => rw [← (hp id hi).2]; exact .ep id wd k o (hp id hi).1
  | rp cs o a vs e fz hs hI hc ho hb h1 h =>
    exact .rp cs o a vs e fz hs (hx.kept _ hI).1 ((hx.kept _ hI).2.trans hc) ho hb h1 fun k d hd => (h k d hd).mono hx.kept
  | fl wd xs a h => exact .fl wd xs a (h.mono hx.kept)
  | junk v => exact .junk v

theorem inB_mono {p q : Nat → Bool} (hpq : ∀ id, p id = true → q id = true) : ∀ (x : V), inB p x = true → inB q x = true
  | .d _, _ => rfl
  | .ag cs, h => inBs_mono hpq cs h
  | .tp cs, h => inBs_mono hpq cs h
  | .fn _ cs, h => inBs_mono hpq cs h
  | .pt _ _, h => hpq _ h
  | .ms _ _ _ _, h => hpq _ h
  | .ep _ _ _ _, h => hpq _ h
  | .rp _ _, _ => rfl
  | .fl _ _, _ => rfl
  | .junk, _ => rfl
where inBs_mono {p q : Nat → Bool} (hpq : ∀ id, p id = true → q id = true) : ∀ (cs : List V), inBs p cs = true → inBs q cs = true
  | [], _ => rfl
  | x :: cs, h => by
    simp only [inBs, Bool.and_eq_true] at h ⊢
    exact ⟨inB_mono hpq x h.1, inBs_mono hpq cs h.2⟩

/-! ### two parts of memory, apart, put together -/
def joinK (c : Cf) (H hv : Heap) : Mem := fun b => c.K b ∨ ∃ id, (lk H id).own = true ∧ lk hv id = .dead ∧ b = c.bk id
def joinC (c c' : Cf) (lo hi : Nat) : Cf := ⟨c'.w, c'.I, c.K, fun id => if lo ≤ id ∧ id < hi then c'.bk id else c.bk id, c'.G⟩

theorem own_block {c : Cf} {N : Nat} {H : Heap} (hH : RelH c N H) {id : Nat} (ho : (lk H id).own = true) : ∃ cs e fz, c.w.heap[c.bk id]? = some (.cells cs e fz) := by
  cases hb : lk H id with
  | box cs => obtain ⟨vs, e, h1, _⟩ := hH.box id cs hb; exact ⟨_, _, _, h1⟩
  | arr w xs => obtain ⟨vs, e, fz, h1, _⟩ := hH.arr id w xs hb; exact ⟨_, _, _, h1⟩
  | fz w xs => rw [hb] at ho; cases ho
  | dead => rw [hb] at ho; cases ho

theorem view_heap {c : Cf} {N lo : Nat} {H hv : Heap} (hH : RelH c N H) (hview : ∀ id, lk hv id = .dead ∨ lk hv id = lk H id) (hlo : ∀ id, lk hv id ≠ .dead → id < lo)
    (hin : ∀ id cs, lk hv id = .box cs → ∀ x ∈ cs, inB (fun id => Nat.blt id lo) x = true) : RelH { c with K := joinK c H hv } lo hv := by
  have hq : ∀ id, lk hv id ≠ .dead → lk H id = lk hv id := fun id h => ((hview id).resolve_left h).symm
  have hown : ∀ id, (lk hv id).own = true → lk H id = lk hv id := fun id h => hq id (by intro h0; rw [h0] at h; cases h)
  refine ⟨hlo, ?_, ?_, ?_, ?_, ?_, hH.low, ?_, ?_, ?_⟩
  · intro id cs hb
    obtain ⟨vs, e, h1, h2, h3⟩ := hH.box id cs (by rw [hq id (by simp [hb])]; exact hb)
    refine ⟨vs, e, h1, h2, fun j x hj => ⟨?_, (h3 j x hj).2⟩⟩
    have hW : ExtW c { c with K := joinK c H hv } := ⟨fun b hb => ⟨hb, rfl⟩, fun b cs e fz h => ⟨cs, h, rfl⟩⟩
    exact (h3 j x hj).1.move hW (fun id hp => ⟨by simpa [Nat.blt_eq] using hp, rfl⟩) (hin id cs hb x (List.mem_of_getElem? hj))
  · intro id wd xs hb
    exact hH.arr id wd xs (by rw [hq id (by simp [hb])]; exact hb)
  · intro id wd xs hb
    exact hH.fz id wd xs (by rw [hq id (by simp [hb])]; exact hb)
  · intro id ho
    exact hH.own id (by rw [hown id ho]; exact ho)
  · intro id id' ho ho' hb
    exact hH.inj id id' (by rw [hown id ho]; exact ho) (by rw [hown id' ho']; exact ho') hb
  · intro id ho hk
    have ho1 : (lk H id).own = true := by rw [hown id ho]; exact ho
    rcases hk with hk | ⟨id', h1, h2, h3⟩
    · exact hH.ownK id ho1 hk
    · have := hH.inj id id' ho1 h1 h3
      subst this
      rw [h2] at ho; cases ho
  · intro b hI hk
    rcases hk with hk | ⟨id', h1, h2, h3⟩
    · exact hH.disj b hI hk
    · subst h3; exact hH.own id' h1 hI
  · intro b hk
    rcases hk with hk | ⟨id', h1, h2, h3⟩
    · exact hH.lowK b hk
    · obtain ⟨cs, e, fz, hc⟩ := own_block hH h1
      subst h3
      exact (Array.getElem?_eq_some_iff.1 hc).1

theorem Arr.same {c c' : Cf} {id wd : Nat} {xs : List D} (h : Arr c id wd xs) (hw : c'.w = c.w) (hI : c'.I = c.I) (hb : c'.bk id = c.bk id) : Arr c' id wd xs := by
  obtain ⟨vs, e, fz, h1, h2, h3, h4, h5, h6, h7⟩ := h
  exact ⟨vs, e, fz, by rw [hb, hw]; exact h1, h2, h3, h4, h5, h6, fun j k x d hj hk => by rw [hw, hI]; exact h7 j k x d hj hk⟩
theorem Arr.frame {c c' : Cf} {id wd : Nat} {xs : List D} (h : Arr c id wd xs) (hk : Kept c.w c.I c'.w c'.I) (hw : c'.w.heap[c.bk id]? = c.w.heap[c.bk id]?) (hb : c'.bk id = c.bk id) : Arr c' id wd xs := by
  obtain ⟨vs, e, fz, h1, h2, h3, h4, h5, h6, h7⟩ := h
  exact ⟨vs, e, fz, by rw [hb, hw]; exact h1, h2, h3, h4, h5, h6, fun j k x d hj hk' => (h7 j k x d hj hk').mono hk⟩

theorem join_new {c c' : Cf} {lo hi N : Nat} (hlo : lo ≤ hi) (hiN : hi ≤ N) {K' : Mem} (he : Ext { c with K := K' } lo c') {x : V} {v : Value} (h : RelV c' hi x v) : RelV (joinC c c' lo hi) N x v := by
  have hW : ExtW c' (joinC c c' lo hi) := ⟨fun b hb => ⟨hb, rfl⟩, fun b cs e fz h => ⟨cs, h, rfl⟩⟩
  refine h.move hW (fun id hp => ?_) h.inB
  have hid : id < hi := by simpa [Nat.blt_eq] using hp
  refine ⟨by omega, ?_⟩
  simp only [joinC]
  by_cases h1 : lo ≤ id
  · rw [if_pos ⟨h1, hid⟩]
  · rw [if_neg (fun h => h1 h.1)]; exact (he.bk id (by omega)).symm
theorem join_old {c c' : Cf} {lo hi N n : Nat} {K' : Mem} (hn : n ≤ N) (he : Ext { c with K := K' } lo c') {x : V} {v : Value} (h : RelV c n x v) (hi' : inB (fun id => !(Nat.ble lo id && Nat.blt id hi)) x = true) : RelV (joinC c c' lo hi) n x v := by
  have h2 : inB (fun id => !(Nat.ble lo id && Nat.blt id hi) && Nat.blt id n) x = true := by
    have h1 := h.inB
    revert h1 hi'
    clear h
    exact both x
  have hW : ExtW c (joinC c c' lo hi) := ⟨he.kept, he.shape⟩
  refine h.move hW (fun id hp => ?_) h2
  simp only [Bool.and_eq_true, Bool.not_eq_true', Bool.and_eq_false_iff, Nat.blt_eq] at hp
  refine ⟨hp.2, ?_⟩
  simp only [joinC]
  rw [if_neg]
  rintro ⟨h3, h4⟩
  rcases hp.1 with h5 | h5
  · rw [Nat.ble_eq_true_of_le h3] at h5; cases h5
  · have : Nat.blt id hi = true := by rw [Nat.blt_eq]; exact h4
    rw [this] at h5; cases h5
where
  both {p q : Nat → Bool} : ∀ (x : V), inB p x = true → inB q x = true → inB (fun id => p id && q id) x = true
  | .d _, _, _ => rfl
  | .ag cs, h, k => boths cs h k
  | .tp cs, h, k => boths cs h k
  | .fn _ cs, h, k => boths cs h k
  | .pt _ _, h, k => by simp only [inB] at h k ⊢; rw [h, k]; rfl
  | .ms _ _ _ _, h, k => by simp only [inB] at h k ⊢; rw [h, k]; rfl
  | .ep _ _ _ _, h, k => by simp only [inB] at h k ⊢; rw [h, k]; rfl
  | .rp _ _, _, _ => rfl
  | .fl _ _, _, _ => rfl
  | .junk, _, _ => rfl
  boths {p q : Nat → Bool} : ∀ (cs : List V), inBs p cs = true → inBs q cs = true → inBs (fun id => p id && q id) cs = true
  | [], _, _ => rfl
  | x :: cs, h, k => by
    simp only [inBs, Bool.and_eq_true] at h k ⊢
    exact ⟨both x h.1 k.1, boths cs h.2 k.2⟩

theorem join_heap {c c' : Cf} {lo hi N : Nat} {H hv hp' H' : Heap} (hH : RelH c N H) (hlo : lo ≤ hi) (hiN : hi ≤ N)
    (he : Ext { c with K := joinK c H hv } lo c') (hH' : RelH c' hi hp')
    (hm : ∀ id, lk H' id = lk hp' id ∨ (lk hp' id = .dead ∧ lk H' id = lk H id ∧ lk hv id = .dead))
    (hr : ∀ id, lk H id ≠ .dead → ¬ (lo ≤ id ∧ id < hi))
    (hin : ∀ id cs, lk H id = .box cs → ∀ x ∈ cs, inB (fun id => !(Nat.ble lo id && Nat.blt id hi)) x = true) : RelH (joinC c c' lo hi) N H' := by
  have hK : c'.K = joinK c H hv := he.K
  have bkA : ∀ id, id < hi → (joinC c c' lo hi).bk id = c'.bk id := by
    intro id hid
    simp only [joinC]
    by_cases h1 : lo ≤ id
    · rw [if_pos ⟨h1, hid⟩]
    · rw [if_neg (fun h => h1 h.1)]; exact (he.bk id (by omega)).symm
  have bkB : ∀ id, lk H id ≠ .dead → (joinC c c' lo hi).bk id = c.bk id := by
    intro id hl
    simp only [joinC]
    rw [if_neg (hr id hl)]
  have live : ∀ {b : Blk}, b.own = true → b ≠ .dead := by rintro b h rfl; cases h
  have kOf : ∀ id, (lk H id).own = true → lk hv id = .dead → c'.K (c.bk id) := fun id h1 h2 => by rw [hK]; exact .inr ⟨id, h1, h2, rfl⟩
  have same : ∀ id, (lk H id).own = true → lk hv id = .dead → c'.w.heap[c.bk id]? = c.w.heap[c.bk id]? := fun id h1 h2 => he.keptK _ (.inr ⟨id, h1, h2, rfl⟩)
  refine ⟨?_, ?_, ?_, ?_, ?_, ?_, hH'.low, ?_, ?_, ?_⟩
  · intro id hl
    rcases hm id with h | ⟨h1, h2, h3⟩
    · rw [h] at hl; have := hH'.lt id hl; omega
    · rw [h2] at hl; exact hH.lt id hl
  · intro id cs hb
    rcases hm id with h | ⟨h1, h2, h3⟩
    · rw [h] at hb
      obtain ⟨vs, e, g1, g2, g3⟩ := hH'.box id cs hb
      refine ⟨vs, e, by rw [bkA id (hH'.lt id (by simp [hb]))]; exact g1, g2, fun j x hj => ⟨join_new hlo hiN he (g3 j x hj).1, (g3 j x hj).2⟩⟩
    · rw [h2] at hb
      obtain ⟨vs, e, g1, g2, g3⟩ := hH.box id cs hb
      refine ⟨vs, e, ?_, g2, fun j x hj => ⟨join_old (Nat.le_refl _) he (g3 j x hj).1 (hin id cs hb x (List.mem_of_getElem? hj)), (g3 j x hj).2⟩⟩
      rw [bkB id (by simp [hb])]
      exact (same id (by rw [hb]; rfl) h3).trans g1
  · intro id wd xs hb
    rcases hm id with h | ⟨h1, h2, h3⟩
    · rw [h] at hb
      exact (hH'.arr id wd xs hb).same rfl rfl (bkA id (hH'.lt id (by simp [hb])))
    · rw [h2] at hb
      exact (hH.arr id wd xs hb).frame he.kept (same id (by rw [hb]; rfl) h3) (bkB id (by simp [hb]))
  · intro id wd xs hb
    rcases hm id with h | ⟨h1, h2, h3⟩
    · rw [h] at hb
      obtain ⟨g1, g2⟩ := hH'.fz id wd xs hb
      exact ⟨g1.same rfl rfl (bkA id (hH'.lt id (by simp [hb]))), by rw [bkA id (hH'.lt id (by simp [hb]))]; exact g2⟩
    · rw [h2] at hb
      obtain ⟨g1, g2⟩ := hH.fz id wd xs hb
      exact ⟨g1.frame he.kept (he.kept _ g2).2 (bkB id (by simp [hb])), by rw [bkB id (by simp [hb])]; exact (he.kept _ g2).1⟩
  · intro id ho hI
    rcases hm id with h | ⟨h1, h2, h3⟩
    · rw [h] at ho
      rw [bkA id (hH'.lt id (live ho))] at hI
      exact hH'.own id ho hI
    · rw [h2] at ho
      rw [bkB id (live ho)] at hI
      exact hH'.disj _ hI (kOf id ho h3)
  · intro id id' ho ho' hb
    rcases hm id with h | ⟨h1, h2, h3⟩ <;> rcases hm id' with h' | ⟨h1', h2', h3'⟩
    · rw [h] at ho; rw [h'] at ho'
      rw [bkA id (hH'.lt id (live ho)), bkA id' (hH'.lt id' (live ho'))] at hb
      exact hH'.inj id id' ho ho' hb
    · rw [h] at ho; rw [h2'] at ho'
      rw [bkA id (hH'.lt id (live ho)), bkB id' (live ho')] at hb
      exact absurd (by rw [hb]; exact kOf id' ho' h3') (hH'.ownK id ho)
    · rw [h2] at ho; rw [h'] at ho'
      rw [bkB id (live ho), bkA id' (hH'.lt id' (live ho'))] at hb
      exact absurd (by rw [← hb]; exact kOf id ho h3) (hH'.ownK id' ho')
    · rw [h2] at ho; rw [h2'] at ho'
      rw [bkB id (live ho), bkB id' (live ho')] at hb
      exact hH.inj id id' ho ho' hb
  · intro id ho hk
    rcases hm id with h | ⟨h1, h2, h3⟩
    · rw [h] at ho
      rw [bkA id (hH'.lt id (live ho))] at hk
      exact hH'.ownK id ho (by rw [hK]; exact .inl hk)
    · rw [h2] at ho
      rw [bkB id (live ho)] at hk
      exact hH.ownK id ho hk
  · intro b hI hk
    exact hH'.disj b hI (by rw [hK]; exact .inl hk)
  · intro b hk
    exact Nat.lt_of_lt_of_le (hH.lowK b hk) he.size
end Go.Fw
