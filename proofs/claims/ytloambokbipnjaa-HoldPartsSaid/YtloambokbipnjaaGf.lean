/- Rounds: less known, numbers renamed; round by round. By this session. -/
import Derived.Test.YtloambokbipnjaaGe
set_option linter.unusedVariables false
set_option linter.unusedSimpArgs false
namespace Go.Fw
variable {P : Program}

mutual
def renV (σ : Nat → Nat) : V → V
  | .d x => .d x
  | .ag cs => .ag (renVs σ cs)
  | .tp cs => .tp (renVs σ cs)
  | .fn f cs => .fn f (renVs σ cs)
  | .pt id o => .pt (σ id) o
  | .ms id w o l => .ms (σ id) w o l
  | .ep id w k c => .ep (σ id) w k c
  | .rp cs c => .rp cs c
  | .fl w xs => .fl w xs
  | .junk => .junk
def renVs (σ : Nat → Nat) : List V → List V
  | [] => []
  | v :: vs => renV σ v :: renVs σ vs
end
def renB (σ : Nat → Nat) : Blk → Blk
  | .box cs => .box (renVs σ cs)
  | b => b

theorem renVs_get (σ : Nat → Nat) : ∀ (cs : List V) (j : Nat), (renVs σ cs)[j]? = (cs[j]?).map (renV σ)
  | [], j => by simp [renVs]
  | v :: vs, 0 => by simp [renVs]
  | v :: vs, j + 1 => by simp [renVs, renVs_get σ vs j]
theorem renVs_len (σ : Nat → Nat) : ∀ (cs : List V), (renVs σ cs).length = cs.length
  | [] => rfl
  | v :: vs => by simp [renVs, renVs_len σ vs]

theorem RelV.unren {c c' : Cf} {n n' : Nat} {σ : Nat → Nat} (hw : c'.w = c.w) (hI : c'.I = c.I) (hb : ∀ id, id < n' → c'.bk id = c.bk (σ id)) : ∀ (x : V) (v : Value), RelV c n (renV σ x) v → Fw.inB (fun id => Nat.blt id n') x = true → RelV c' n' x v
  | .d x, v, h, _ => by
    simp only [renV] at h
    have := h.inv_d
    exact .d x v (by rw [hw, hI]; exact this)
  | .ag cs, v, h, hi => by
    simp only [renV] at h
    cases h with
    | ag _ vs hl h1 h =>
      exact .ag cs vs (by rw [hl, renVs_len]) (fun j hj => h1 j (by rw [renVs_len]; exact hj)) (list hw hI hb cs vs (fun j x hj => h j _ (by rw [renVs_get, hj]; rfl)) hi)
  | .tp cs, v, h, hi => by
    simp only [renV] at h
    cases h with
    | tp _ vs hl h =>
      exact .tp cs vs (by rw [hl, renVs_len]) (list hw hI hb cs vs (fun j x hj => h j _ (by rw [renVs_get, hj]; rfl)) hi)
  | .fn g cs, v, h, hi => by
    simp only [renV] at h
    cases h with
    | fn _ _ vs hl h =>
      exact .fn g cs vs (by rw [hl, renVs_len]) (list hw hI hb cs vs (fun j x hj => h j _ (by rw [renVs_get, hj]; rfl)) hi)
  | .pt id o, v, h, hi => by
    simp only [renV] at h
    have hid : id < n' := by simpa [Fw.inB, Nat.blt_eq] using hi
    cases h with
    | pt _ _ _ => rw [← hb id hid]; exact .pt id o hid
  | .ms id w o l, v, h, hi => by
    simp only [renV] at h
    have hid : id < n' := by simpa [Fw.inB, Nat.blt_eq] using hi
    cases h with
    | ms _ _ _ _ cap a _ h2 h3 h4 h5 h6 =>
      refine .ms id w o l cap a hid h2 h3 (by rw [hb id hid]; exact h4) h5 ?_
      rw [hb id hid, hw]; exact h6
  | .ep id w k o, v, h, hi => by
    simp only [renV] at h
    have hid : id < n' := by simpa [Fw.inB, Nat.blt_eq] using hi
    cases h with
    | ep _ _ _ _ _ => rw [← hb id hid]; exact .ep id w k o hid
  | .rp cs o, v, h, _ => by
    simp only [renV] at h
    cases h with
    | rp _ _ a vs e fz hs hI' hc ho hb h1 h => exact .rp cs o a vs e fz hs (by rw [hI]; exact hI') (by rw [hw]; exact hc) ho hb h1 (by rw [hw, hI]; exact h)
  | .fl w xs, v, h, _ => by
    simp only [renV] at h
    cases h with
    | fl _ _ a h => exact .fl w xs a (by rw [hw, hI]; exact h)
  | .junk, v, _, _ => .junk v
where list {c c' : Cf} {n n' : Nat} {σ : Nat → Nat} (hw : c'.w = c.w) (hI : c'.I = c.I) (hb : ∀ id, id < n' → c'.bk id = c.bk (σ id)) : ∀ (cs : List V) (vs : Array Value), (∀ (j : Nat) (x : V), cs[j]? = some x → RelV c n (renV σ x) (vs.getD j undef)) → inBs (fun id => Nat.blt id n') cs = true →
    ∀ (j : Nat) (x : V), cs[j]? = some x → RelV c' n' x (vs.getD j undef)
  | [], vs, _, _, j, x, hj => by simp at hj
  | y :: cs, vs, h, hi, j, x, hj => by
    simp only [inBs, Bool.and_eq_true] at hi
    cases j with
    | zero =>
      simp only [List.getElem?_cons_zero, Option.some.injEq] at hj
      subst hj
      exact RelV.unren hw hI hb y _ (h 0 y rfl) hi.1
    | succ j =>
      have := list hw hI hb cs (vs.extract 1 vs.size) (fun i x hx => by
        have h1 := h (i + 1) x (by simpa using hx)
        have e : (vs.extract 1 vs.size).getD i undef = vs.getD (i + 1) undef := by
          simp only [Array.getD_eq_getD_getElem?, Array.getElem?_extract]
          split
          · rw [Nat.add_comm]
          · rw [Array.getElem?_eq_none (by omega)]
        rw [e]; exact h1) hi.2 j x (by simpa using hj)
      have e : (vs.extract 1 vs.size).getD j undef = vs.getD (j + 1) undef := by
        simp only [Array.getD_eq_getD_getElem?, Array.getElem?_extract]
        split
        · rw [Nat.add_comm]
        · rw [Array.getElem?_eq_none (by omega)]
      rw [e] at this; exact this

/-- each slot that is kept -/
def slotsW (f : Slots) (σ : Nat → Nat) : Slots → Prop
  | [] => True
  | (j, v) :: r => get f j = renV σ v ∧ slotsW f σ r
def heapW (h : Heap) (σ : Nat → Nat) : Heap → Prop
  | [] => True
  | (j, b) :: r => (b ≠ .dead → lk h (σ j) = renB σ b) ∧ heapW h σ r
theorem slotsW_get {f : Slots} {σ : Nat → Nat} : ∀ {r : Slots}, slotsW f σ r → ∀ t, get r t = .junk ∨ get f t = renV σ (get r t)
  | [], _, t => .inl rfl
  | (j, v) :: r, h, t => by
    rw [get_cons]
    by_cases hj : j = t
    · subst hj; rw [if_pos rfl]; exact .inr h.1
    · rw [if_neg hj]; exact slotsW_get h.2 t
theorem heapW_get {h : Heap} {σ : Nat → Nat} : ∀ {r : Heap}, heapW h σ r → ∀ t, lk r t ≠ .dead → lk h (σ t) = renB σ (lk r t)
  | [], _, t, hd => absurd rfl hd
  | (j, v) :: r, h, t, hd => by
    rw [lk_cons] at hd ⊢
    by_cases hj : j = t
    · subst hj; rw [if_pos rfl] at hd ⊢; exact h.1 hd
    · rw [if_neg hj] at hd ⊢; exact heapW_get h.2 t hd

/-- what can be read off: numbers in bounds -/
def okW (st : St) : Bool := st.f.all (fun x => inB (fun id => Nat.blt id st.n) x.2) && st.h.all (fun x => Nat.blt x.1 st.n && inBk (fun id => Nat.blt id st.n) x.2)
def sig (l : List Nat) (id : Nat) : Nat := l.getD id id
def okSig (n0 n : Nat) (l : List Nat) : Bool := Nat.ble n0 n && (List.range n).all (fun i => (List.range n).all fun j => (i == j) || !(sig l i == sig l j)) && (List.range n0).all fun i => sig l i == i

/-- less is known, numbers are others -/
structure Weak (n0 : Nat) (l : List Nat) (st st' : St) : Prop where
  sl : slotsW st.f (sig l) st'.f
  hp : heapW st.h (sig l) st'.h
  ok : okW st' = true
  sg : okSig n0 st'.n l = true

theorem get_all {p : Nat → Bool} : ∀ {f : Slots}, (f.all fun x => inB p x.2) = true → ∀ t, inB p (get f t) = true
  | [], _, t => rfl
  | (j, v) :: r, h, t => by
    simp only [List.all_cons, Bool.and_eq_true] at h
    rw [get_cons]
    by_cases hj : j = t
    · rw [if_pos hj]; exact h.1
    · rw [if_neg hj]; exact get_all h.2 t
theorem lk_all {n : Nat} : ∀ {hp : Heap}, (hp.all fun x => Nat.blt x.1 n && inBk (fun id => Nat.blt id n) x.2) = true → ∀ t, lk hp t ≠ .dead → t < n ∧ inBk (fun id => Nat.blt id n) (lk hp t) = true
  | [], _, t, hd => absurd rfl hd
  | (j, v) :: r, h, t, hd => by
    simp only [List.all_cons, Bool.and_eq_true] at h
    rw [lk_cons] at hd ⊢
    by_cases hj : j = t
    · subst hj; rw [if_pos rfl] at hd ⊢; exact ⟨by simpa [Nat.blt_eq] using h.1.1, h.1.2⟩
    · rw [if_neg hj] at hd ⊢; exact lk_all h.2 t hd

theorem Weak.use {n0 : Nat} {l : List Nat} {st st' : St} (hw : Weak n0 l st st') {G : Nat → Option (List D)} {nt : Nat} {c : Cf} {a : Act} (hr : SR G nt c st a) : ∃ c', Ext c n0 c' ∧ c'.w = c.w ∧ n0 ≤ st'.n ∧ SR G nt c' st' a := by
  have hsg := hw.sg
  simp only [okSig, Bool.and_eq_true] at hsg
  obtain ⟨⟨s1, s2⟩, s3⟩ := hsg
  have hok := hw.ok
  simp only [okW, Bool.and_eq_true] at hok
  obtain ⟨k1, k2⟩ := hok
  have inj : ∀ i j, i < st'.n → j < st'.n → sig l i = sig l j → i = j := by
    intro i j hi hj he
    rw [List.all_eq_true] at s2
    have h1 := s2 i (List.mem_range.2 hi)
    rw [List.all_eq_true] at h1
    have h2 := h1 j (List.mem_range.2 hj)
    rw [he] at h2
    simpa using h2
  have low : ∀ i, i < n0 → sig l i = i := by
    intro i hi
    rw [List.all_eq_true] at s3
    simpa using s3 i (List.mem_range.2 hi)
  let c' : Cf := { c with bk := fun id => c.bk (sig l id) }
  have un : ∀ (x : V) (v : Value), RelV c st.n (renV (sig l) x) v → inB (fun id => Nat.blt id st'.n) x = true → RelV c' st'.n x v := fun x v h hi => RelV.unren (c := c) (c' := c') (σ := sig l) rfl rfl (fun id _ => rfl) x v h hi
  have own : ∀ id, (lk st'.h id).own = true → lk st.h (sig l id) = renB (sig l) (lk st'.h id) ∧ (lk st.h (sig l id)).own = true ∧ id < st'.n := by
    intro id ho
    have hl : lk st'.h id ≠ .dead := by intro h; rw [h] at ho; cases ho
    have h1 := heapW_get hw.hp id hl
    refine ⟨h1, ?_, (lk_all k2 id hl).1⟩
    rw [h1]
    cases hb : lk st'.h id <;> rw [hb] at ho <;> first | (cases ho; done) | rfl
  refine ⟨c', ⟨Nat.le_refl _, fun _ h => ⟨h, rfl⟩, fun _ cs _ _ h => ⟨cs, h, rfl⟩, fun id hid => ?_, rfl, rfl, fun _ _ => rfl, rfl, rfl, rfl⟩, rfl, Nat.le_of_ble_eq_true s1, hr.g, ⟨hr.s.glob, fun t => ?_⟩, ?_, hr.size, hr.defers⟩
  · show c.bk (sig l id) = c.bk id
    rw [low id hid]
  · rcases slotsW_get hw.sl t with h | h
    · rw [h]; exact .junk _
    · refine un _ _ ?_ (get_all k1 t)
      rw [← h]; exact hr.s.get t
  · have b := hr.h
    refine ⟨fun id hl => (lk_all k2 id hl).1, fun id cs hb => ?_, fun id w xs hb => ?_, fun id w xs hb => ?_, fun id ho => ?_, fun id id' ho ho' hbk => ?_, b.low, fun id ho => ?_, b.disj, b.lowK⟩
    · have hl : lk st'.h id ≠ .dead := by rw [hb]; simp
      have h1 := heapW_get hw.hp id hl
      rw [hb] at h1
      obtain ⟨vs, e, h2, h3, h4⟩ := b.box _ _ h1
      have hi := (lk_all k2 id hl).2
      rw [hb] at hi
      refine ⟨vs, e, h2, by rw [h3, renVs_len], fun j x hj => ?_⟩
      obtain ⟨h5, h6⟩ := h4 j (renV (sig l) x) (by rw [renVs_get, hj]; rfl)
      exact ⟨un x _ h5 (inBs_all hi j x hj), h6⟩
    · have hl : lk st'.h id ≠ .dead := by rw [hb]; simp
      have h1 := heapW_get hw.hp id hl
      rw [hb] at h1
      obtain ⟨vs, e, fz, g1, g2⟩ := b.arr _ _ _ h1
      exact ⟨vs, e, fz, g1, g2⟩
    · have hl : lk st'.h id ≠ .dead := by rw [hb]; simp
      have h1 := heapW_get hw.hp id hl
      rw [hb] at h1
      obtain ⟨⟨vs, e, fz, g1, g2⟩, g3⟩ := b.fz _ _ _ h1
      exact ⟨⟨vs, e, fz, g1, g2⟩, g3⟩
    · exact b.own _ (own id ho).2.1
    · exact inj id id' (own id ho).2.2 (own id' ho').2.2 (b.inj _ _ (own id ho).2.1 (own id' ho').2.1 hbk)
    · exact b.ownK _ (own id ho).2.1

/-! ### rounds -/
def LoopN (P : Program) (G : Nat → Option (List D)) (nt n0 : Nat) (body : Code) (st : St) (q : X × St) : Prop :=
  ∃ n, n0 ≤ st.n → ∀ (c : Cf) (a : Act) (Q : Exit → Act → World → Prop), SR G nt c st a → (∀ a' c', Ext c n0 c' → n0 ≤ q.2.n → SR G nt c' q.2 a' → Q (exitOf q.1) a' c'.w) → Code.rounds P body Q n a c.w
section
variable {G : Nat → Option (List D)} {nt n0 : Nat} {body : Code}
theorem LoopN.code {st : St} {q : X × St} (h : LoopN P G nt n0 body st q) : CodeN P G nt n0 (.loop body) st q := by
  obtain ⟨n, h⟩ := h
  intro h0 c a Q hr hQ
  exact wp_loop_rounds n (h h0 c a Q hr hQ)
theorem LoopN.out {st : St} {q : X × St} (h : CodeN P G nt n0 body st q) (hq : q.1 ≠ .n) : LoopN P G nt n0 body st q := by
  refine ⟨1, fun h0 c a Q hr hQ => ?_⟩
  rw [rounds_succ]
  refine h h0 c a _ hr fun a' c' hx hn hr' => ?_
  have := hQ a' c' hx hn hr'
  obtain ⟨x', st'⟩ := q
  cases x' with
  | n => exact absurd rfl hq
  | ret => exact this
  | exit id => exact this
theorem LoopN.next {st st1 : St} {q : X × St} (h : CodeN P G nt n0 body st (.n, st1)) (hl : LoopN P G nt n0 body st1 q) : LoopN P G nt n0 body st q := by
  obtain ⟨n, hl⟩ := hl
  refine ⟨n + 1, fun h0 c a Q hr hQ => ?_⟩
  rw [rounds_succ]
  refine h h0 c a _ hr fun a' c' hx hn hr' => ?_
  exact hl hn c' a' Q hr' fun a2 c2 hx2 hn2 hr2 => hQ a2 c2 (hx.trans hx2 (Nat.le_refl _)) hn2 hr2
theorem LoopN.weak {l : List Nat} {st st1 : St} {q : X × St} (hw : Weak n0 l st st1) (hl : LoopN P G nt n0 body st1 q) : LoopN P G nt n0 body st q := by
  obtain ⟨n, hl⟩ := hl
  refine ⟨n, fun h0 c a Q hr hQ => ?_⟩
  obtain ⟨c', hx, hw', hn, hr'⟩ := hw.use hr
  have := hl hn c' a Q hr' fun a2 c2 hx2 hn2 hr2 => hQ a2 c2 (hx.trans hx2 (Nat.le_refl _)) hn2 hr2
  rw [hw'] at this
  exact this
theorem CodeN.weak {code : Code} {l : List Nat} {st st1 : St} {q : X × St} (hw : Weak n0 l st st1) (hl : CodeN P G nt n0 code st1 q) : CodeN P G nt n0 code st q := by
  intro h0 c a Q hr hQ
  obtain ⟨c', hx, hw', hn, hr'⟩ := hw.use hr
  have := hl hn c' a Q hr' fun a2 c2 hx2 hn2 hr2 => hQ a2 c2 (hx.trans hx2 (Nat.le_refl _)) hn2 hr2
  rw [hw'] at this
  exact this
theorem CodeN.weak_out {code : Code} {l : List Nat} {st st1 st2 : St} {x : X} (hl : CodeN P G nt n0 code st (x, st1)) (hw : Weak n0 l st1 st2) : CodeN P G nt n0 code st (x, st2) := by
  intro h0 c a Q hr hQ
  refine hl h0 c a Q hr fun a1 c1 hx1 hn1 hr1 => ?_
  obtain ⟨c', hx, hw', hn, hr'⟩ := hw.use hr1
  have := hQ a1 c' (hx1.trans hx (Nat.le_refl _)) hn hr'
  rw [hw'] at this
  exact this
theorem LoopN.weak_out {l : List Nat} {st st1 st2 : St} {x : X} (hl : LoopN P G nt n0 body st (x, st1)) (hw : Weak n0 l st1 st2) : LoopN P G nt n0 body st (x, st2) := by
  obtain ⟨n, hl⟩ := hl
  refine ⟨n, fun h0 c a Q hr hQ => ?_⟩
  refine hl h0 c a Q hr fun a1 c1 hx1 hn1 hr1 => ?_
  obtain ⟨c', hx, hw', hn, hr'⟩ := hw.use hr1
  have := hQ a1 c' (hx1.trans hx (Nat.le_refl _)) hn hr'
  rw [hw'] at this
  exact this
end

/-- a piece of code, run on what is not told, told -/
theorem evK_code {H : HK} (hok : HKOK P H) {L : Loops} {nt n0 : Nat} {c : Code} {k : Nat} {st : St} {q : X × St} (hk : okCode nt c = true) (hL : LoopsSem P H.G nt n0 L c k) (h : evK P H L c k st (fun x st' => some (x, st')) = some q) : CodeN P H.G nt n0 c st q := by
  obtain ⟨x, st', h1, h2⟩ := evK_sound (n0 := n0) hok c k st _ hk hL h
  injection h2 with h2
  subst h2
  exact h1

/-- a function's loops, by their numbers -/
def bodyOf (P : Program) (g : FuncId) (k : Nat) : Code := match fnOf P g with
  | some d => match loopAt d.code k with
    | some c => c
    | none => .skip
  | none => .skip
def ntOf (P : Program) (g : FuncId) : Nat := match fnOf P g with
  | some d => d.nt
  | none => 0
/-- what is told of a loop is so -/
def LoopIs (P : Program) (G : Nat → Option (List D)) (n0 : Nat) (g : FuncId) (k : Nat) (s : St → {α : Type} → (X → St → Option α) → Option α) : Prop :=
  ∀ (st : St) (α : Type) (K : X → St → Option α) (r : α), s st K = some r → ∃ x st', LoopN P G (ntOf P g) n0 (bodyOf P g k) st (x, st') ∧ K x st' = some r
theorem loopsOf {G : Nat → Option (List D)} {n0 : Nat} {g : FuncId} {L : Loops} (h : ∀ k, LoopIs P G n0 g k (L k)) : LoopsOf P G n0 L g := by
  intro d hd k body hb st α K r hk
  rw [Nat.zero_add] at hk
  obtain ⟨x, st', h1, h2⟩ := h k st α K r hk
  refine ⟨x, st', ?_, h2⟩
  have e1 : ntOf P g = d.nt := by simp only [ntOf, hd]
  have e2 : bodyOf P g k = body := by simp only [bodyOf, hd, hb]
  rw [e1, e2] at h1
  exact h1.code
theorem loopIs_none {G : Nat → Option (List D)} {n0 : Nat} {g : FuncId} {k : Nat} : LoopIs P G n0 g k (fun _ _ _ => none) := fun st α K r h => by cases h
/-- one turn of a loop without loops in it -/
theorem turn {H : HK} (hok : HKOK P H) {g : FuncId} {k : Nat} {n0 : Nat} {L : Loops} (hL : LoopsSem P H.G (ntOf P g) n0 L (bodyOf P g k) 0) (hc : okCode (ntOf P g) (bodyOf P g k) = true) {st : St} {q : X × St} (h : evK P H L (bodyOf P g k) 0 st (fun x st' => some (x, st')) = some q) : CodeN P H.G (ntOf P g) n0 (bodyOf P g k) st q :=
  evK_code hok hc hL h
theorem noLoopsIn {G : Nat → Option (List D)} {nt n0 : Nat} {L : Loops} {c : Code} (h : loops c = 0) : LoopsSem P G nt n0 L c 0 := fun k b hb => absurd (loopAt_lt hb) (by omega)
/-- a row, out of the tree -/
theorem row_of {H : HK} (hok : HKOK P H) {L : Loops} {g : FuncId} (hL : LoopsOf P H.G 0 L g) {ds : List D} {q : D} (h : pcallK P H L g ds some = some q) : Enters P g ∧ PCall P H.G g ds q := by
  obtain ⟨d, h1, h2, h3⟩ := pcallK_sound hok hL h
  injection h3 with h3
  subst h3
  exact ⟨h1, h2⟩
end Go.Fw
