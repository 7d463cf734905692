/- Part 4 of what the proofs of this seat stand on: how plain data stand for values, and an evaluator on them that is proved sound. -/
import Derived.ChangeSame
import Derived.ChangeArms
import Derived.ChangeSlices
import Derived.Below
import Derived.Deep.Slices
import Derived.Lib.LaidTab
import Derived.Lib.ItoaNum
import Derived.Sort.Grow
import Derived.LaidLaws
import Derived.MakeChecks
import Derived.Stop.LaidErr
import Derived.Test.YtpoiijkodpnobaaDoorW3
section
/- Places and functions, told by shapes. By this session. -/
set_option linter.unusedVariables false
set_option linter.unusedSimpArgs false
namespace Go.Fw
variable {P : Program} {α : Type} {r : α}

/-! ### what comes of a place -/
abbrev PEnds := List (X × SSh)
@[reducible] def OutV : PEnds → Type
  | [] => Empty
  | o :: os => match os with
    | [] => Vals o.2.tys
    | _ :: _ => Vals o.2.tys ⊕ OutV os
/-- a list that may be nothing is looked into -/
def split1 : (t : Ty) → Bool → t.den → (t.den → Option α) → Option α
  | .l t0, true => fun (x : List t0.den) K => match x with
    | [] => K ([] : List t0.den)
    | a :: l => K (a :: l : List t0.den)
  | _, _ => fun x K => K x
def splitV : (ts : List Ty) → List Bool → Vals ts → (Vals ts → Option α) → Option α
  | [], _, v, K => K v
  | [t], ns, v, K => split1 t (ns.getD 0 false) v K
  | t :: t' :: ts, ns, v, K => split1 t (ns.getD 0 false) v.1 fun x => splitV (t' :: ts) (ns.drop 1) v.2 fun y => K (x, y)
theorem split1_is : ∀ {t : Ty} {n : Bool} {v : t.den} {K : t.den → Option α}, split1 t n v K = K v
  | .l t0, true, v, K => by
    simp only [split1]
    cases (v : List t0.den) <;> rfl
  | .l t0, false, v, K => rfl
  | .b, n, v, K => by cases n <;> rfl
  | .s, n, v, K => by cases n <;> rfl
  | .e, n, v, K => by cases n <;> rfl
  | .u, n, v, K => by cases n <;> rfl
  | .i _, n, v, K => by cases n <;> rfl
  | .p _ _, n, v, K => by cases n <;> rfl
  | .g _, n, v, K => by cases n <;> rfl
theorem splitV_is : ∀ {ts : List Ty} {ns : List Bool} {v : Vals ts} {K : Vals ts → Option α}, splitV ts ns v K = K v
  | [], _, v, K => rfl
  | [t], ns, v, K => split1_is
  | t :: t' :: ts, ns, v, K => by
    show split1 t _ v.1 _ = _
    rw [split1_is]
    exact splitV_is (ts := t' :: ts)
def nilHoles (s : SSh) : List Bool := (slTys s.sl).map (fun _ => false) ++ s.bl.flatMap fun b => match b with
  | .arrN _ => [true]
  | b => b.tys.map fun _ => false
def outGo : (os : PEnds) → OutV os → (X → St → Option α) → Option α
  | [], r, K => r.elim
  | [o], v, K => splitV o.2.tys (nilHoles o.2) v fun v => K o.1 (o.2.st (elts o.2.tys v))
  | o :: o' :: os, v, K => match v with
    | .inl v => splitV o.2.tys (nilHoles o.2) v fun v => K o.1 (o.2.st (elts o.2.tys v))
    | .inr v => outGo (o' :: os) v K
/-- where it leads, and to which state -/
def outIs : (os : PEnds) → OutV os → X × St
  | [], r => r.elim
  | [o], v => (o.1, o.2.st (elts o.2.tys v))
  | o :: o' :: os, v => match v with
    | .inl v => (o.1, o.2.st (elts o.2.tys v))
    | .inr v => outIs (o' :: os) v
theorem outGo_is : ∀ {os : PEnds} {v : OutV os} {K : X → St → Option α}, outGo os v K = K (outIs os v).1 (outIs os v).2
  | [], v, K => v.elim
  | [o], v, K => splitV_is (ts := o.2.tys) (K := fun v => K o.1 (o.2.st (elts o.2.tys v)))
  | o :: o' :: os, v, K => by
    cases v with
    | inl v => exact splitV_is (ts := o.2.tys) (K := fun v => K o.1 (o.2.st (elts o.2.tys v)))
    | inr v => exact outGo_is (os := o' :: os) (v := v)
def xIs : X → X → Bool
  | .n, .n => true
  | .ret, .ret => true
  | .exit a, .exit b => a == b
  | _, _ => false
theorem xIs_eq {a b : X} (h : xIs a b = true) : a = b := by
  cases a <;> cases b <;> simp only [xIs] at h <;> first | rfl | (cases h; done) | skip
  rename_i i j
  rw [show i = j from by simpa using h]
def outGet (n0 : Nat) : (os : PEnds) → X → St → (OutV os → Option α) → Option α
  | [], _, _, _ => none
  | [o], x, st, K => bif xIs x o.1 then absK n0 o.2 st fun ds => (match decAll o.2.tys ds with
    | some v => K v
    | none => none) else none
  | o :: o' :: os, x, st, K => bif xIs x o.1 then absK n0 o.2 st fun ds => (match decAll o.2.tys ds with
    | some v => K (.inl v)
    | none => none) else outGet n0 (o' :: os) x st fun v => K (.inr v)
theorem outGet_sound {n0 : Nat} : ∀ {os : PEnds} {x : X} {st : St} {K : OutV os → Option α}, outGet n0 os x st K = some r → ∃ v, x = (outIs os v).1 ∧ Less n0 st (outIs os v).2 ∧ K v = some r
  | [], x, st, K, h => by cases h
  | [o], x, st, K, h => by
    simp only [outGet] at h
    obtain ⟨h1, h2⟩ := cond_some h
    obtain ⟨ds, h3, h4⟩ := absK_sound h2
    split at h4
    · rename_i v hv
      refine ⟨v, xIs_eq h1, ?_, h4⟩
      show Less n0 st (o.2.st (elts o.2.tys v))
      rw [decAll_elts hv]; exact h3
    · cases h4
  | o :: o' :: os, x, st, K, h => by
    simp only [outGet] at h
    cases hx : xIs x o.1 <;> rw [hx] at h
    · obtain ⟨v, h1, h2, h3⟩ := outGet_sound (os := o' :: os) h
      exact ⟨.inr v, h1, h2, h3⟩
    · obtain ⟨ds, h3, h4⟩ := absK_sound h
      split at h4
      · rename_i v hv
        refine ⟨.inl v, xIs_eq hx, ?_, h4⟩
        show Less n0 st (o.2.st (elts o.2.tys v))
        rw [decAll_elts hv]; exact h3
      · cases h4

/-! ### places -/
structure NodeT where
  sh : SSh
  os : PEnds
  f : Vals sh.tys → Option (OutV os)
def NodeT.summ (T : NodeT) (n0 : Nat) : Summ := fun st _ K => absK n0 T.sh st fun ds => match decAll T.sh.tys ds with
  | some s => (T.f s).bind fun r => outGo T.os r K
  | none => none
section
variable {G : Nat → Option (List D)} {nt n0 : Nat}
theorem CodeN.less {code : Code} {st st1 : St} {q : X × St} (hw : Less n0 st st1) (hl : CodeN P G nt n0 code st1 q) : CodeN P G nt n0 code st q := by
  intro h0 ro hro lo c a Q hr hQ
  obtain ⟨hn, hu⟩ := hw h0
  obtain ⟨c', hx, hw', hr'⟩ := hu _ _ _ _ _ hr
  have := hl hn ro hro lo c' a Q hr' fun a2 c2 hx2 hn2 hr2 => hQ a2 c2 (hx.trans hx2 (Nat.le_refl _)) hn2 hr2
  rw [hw'] at this
  exact this
theorem CodeN.less_out {code : Code} {st st1 st2 : St} {x : X} (hl : CodeN P G nt n0 code st (x, st1)) (hw : Less n0 st1 st2) : CodeN P G nt n0 code st (x, st2) := by
  intro h0 ro hro lo c a Q hr hQ
  refine hl h0 ro hro lo c a Q hr fun a1 c1 hx1 hn1 hr1 => ?_
  obtain ⟨hn, hu⟩ := hw hn1
  obtain ⟨c', hx, hw', hr'⟩ := hu _ _ _ _ _ hr1
  have := hQ a1 c' (hx1.trans hx (Nat.le_refl _)) hn hr'
  rw [hw'] at this
  exact this
theorem node_told' {g : FuncId} {k : Nat} (T : NodeT) (h : ∀ s r, T.f s = some r → CodeN P G (ntOf P g) n0 (nodeOf P g k) (T.sh.st (elts T.sh.tys s)) (outIs T.os r)) : ToldOK P G n0 g k (.yes (T.summ n0)) := by
  refine told_yes fun st α K r hr => ?_
  unfold NodeT.summ at hr
  obtain ⟨ds, h1, hr⟩ := absK_sound hr
  split at hr
  · rename_i s hs
    obtain ⟨r', hf, hr⟩ := Option.bind_eq_some_iff.1 hr
    rw [outGo_is] at hr
    have := h s r' hf
    rw [decAll_elts hs] at this
    exact ⟨_, _, CodeN.less h1 this, hr⟩
  · cases hr
/-- a piece of code, from a shape on to its ends -/
def nodeK (P : Program) (H : HK) (L : Loops) (c : Code) (n0 : Nat) (sh : SSh) (os : PEnds) (s : Vals sh.tys) (K : OutV os → Option α) : Option α :=
  evK P H L c 0 (sh.st (elts sh.tys s)) fun x st => outGet n0 os x st K
/-- one round -/
def turnK (P : Program) (H : HK) (L : Loops) (c : Code) (n0 : Nat) (sh : SSh) (os : PEnds) (s : Vals sh.tys) (K : Vals sh.tys ⊕ OutV os → Option α) : Option α :=
  evK P H L c 0 (sh.st (elts sh.tys s)) fun x st => match x with
    | .n => absK n0 sh st fun ds => match decAll sh.tys ds with
      | some s' => K (.inl s')
      | none => none
    | x => outGet n0 os x st fun v => K (.inr v)
def turnEnd (sh : SSh) (os : PEnds) (y : Vals sh.tys ⊕ OutV os) : X × St := match y with
  | .inl s' => (.n, sh.st (elts sh.tys s'))
  | .inr v => outIs os v
theorem nodeK_sound {H : HK} (hok : HKOK P H) {L : Loops} {c : Code} {sh : SSh} {os : PEnds} (hc : okCode nt c = true) (hL : LoopsSem P H.G nt n0 L c 0) {s : Vals sh.tys} {y : OutV os} (h : nodeK P H L c n0 sh os s some = some y) :
    CodeN P H.G nt n0 c (sh.st (elts sh.tys s)) (outIs os y) := by
  unfold nodeK at h
  obtain ⟨x, st', h1, h2⟩ := evK_sound hok c 0 _ _ hc hL h
  obtain ⟨v, rfl, h3, h4⟩ := outGet_sound h2
  injection h4 with h4
  subst h4
  exact h1.less_out h3
theorem turnK_sound {H : HK} (hok : HKOK P H) {L : Loops} {c : Code} {sh : SSh} {os : PEnds} (hc : okCode nt c = true) (hL : LoopsSem P H.G nt n0 L c 0) {s : Vals sh.tys} {y : Vals sh.tys ⊕ OutV os} (h : turnK P H L c n0 sh os s some = some y) :
    CodeN P H.G nt n0 c (sh.st (elts sh.tys s)) (turnEnd sh os y) := by
  unfold turnK at h
  obtain ⟨x, st', h1, h2⟩ := evK_sound hok c 0 _ _ hc hL h
  cases x with
  | n =>
    obtain ⟨ds, h3, h4⟩ := absK_sound h2
    split at h4
    · rename_i s' hs
      injection h4 with h4
      subst h4
      rw [← decAll_elts hs] at h3
      exact h1.less_out h3
    · cases h4
  | ret =>
    obtain ⟨v, hv, h3, h4⟩ := outGet_sound h2
    injection h4 with h4
    subst h4
    have := h1.less_out h3
    rw [hv] at this
    exact this
  | exit j =>
    obtain ⟨v, hv, h3, h4⟩ := outGet_sound h2
    injection h4 with h4
    subst h4
    have := h1.less_out h3
    rw [hv] at this
    exact this
/-- an end that is none of a round's -/
def okEnds (os : PEnds) : Bool := os.all fun o => !xIs o.1 .n
theorem okEnds_is : ∀ {os : PEnds}, okEnds os = true → ∀ v : OutV os, (outIs os v).1 ≠ .n
  | [], _, v => v.elim
  | [o], h, v => by
    simp only [okEnds, List.all_cons, Bool.and_eq_true, Bool.not_eq_true'] at h
    intro e
    have : o.1 = .n := e
    rw [this] at h
    cases h.1
  | o :: o' :: os, h, v => by
    have h0 := h
    simp only [okEnds, List.all_cons, Bool.and_eq_true, Bool.not_eq_true'] at h
    cases v with
    | inl v =>
      intro e
      have : o.1 = .n := e
      rw [this] at h
      cases h.1
    | inr v => exact okEnds_is (os := o' :: os) (by simp only [okEnds, List.all_cons, Bool.and_eq_true, Bool.not_eq_true']; exact h.2) v
/-- a loop is told -/
theorem loop_told' {H : HK} (hok : HKOK P H) {L : Loops} {g : FuncId} {k : Nat} {body : Code} (hn : nodeOf P g k = .loop body) (hc : okCode (ntOf P g) body = true) (hL : LoopsSem P H.G (ntOf P g) n0 L body 0) (sh : SSh) (os : PEnds) (ho : okEnds os = true)
    (t : Vals sh.tys → Option (Vals sh.tys ⊕ OutV os)) (h : ∀ s, turnK P H L body n0 sh os s some = t s) : ToldOK P H.G n0 g k (.yes (NodeT.summ ⟨sh, os, rounds t⟩ n0)) := by
  refine node_told' _ fun s r hr => ?_
  obtain ⟨n, hn'⟩ := rounds_some.1 hr
  rw [hn]
  have key : ∀ s y, t s = some y → CodeN P H.G (ntOf P g) n0 body (sh.st (elts sh.tys s)) (turnEnd sh os y) := fun s y hy => turnK_sound hok hc hL (by rw [h]; exact hy)
  exact (loopN_turns (e := fun s => sh.st (elts sh.tys s)) (x := outIs os) (okEnds_is ho) (fun s s' hs => key s _ hs) (fun s r hs => key s _ hs) n s r hn').code
/-- another place is told -/
theorem place_told {H : HK} (hok : HKOK P H) {L : Loops} {g : FuncId} {k : Nat} {c : Code} (hn : nodeOf P g k = c) (hc : okCode (ntOf P g) c = true) (hL : LoopsSem P H.G (ntOf P g) n0 L c 0) (sh : SSh) (os : PEnds)
    (f : Vals sh.tys → Option (OutV os)) (h : ∀ s, nodeK P H L c n0 sh os s some = f s) : ToldOK P H.G n0 g k (.yes (NodeT.summ ⟨sh, os, f⟩ n0)) := by
  refine node_told' _ fun s r hr => ?_
  rw [hn]
  exact nodeK_sound hok hc hL (by rw [h]; exact hr)
end

/-! ### functions -/
/-- what a function hands back, part by part: its own, or not, and of which type -/
abbrev Back := List (Bool × Ty)
def Back.tys (m : Back) : List Ty := m.map (·.2)
def freshD (t : Ty) (xs : Ls) : D := .fr t.w xs
def encR1 : Bool × Ty → D → D
  | (true, .l t), .sl _ xs => .fr t.w xs
  | _, d => d
def encRs : Back → List D → List D
  | m :: ms, d :: ds => encR1 m d :: encRs ms ds
  | _, _ => []
def tupD : List D → D
  | [d] => d
  | ds => .tp ds
/-- of what it hands back, data -/
def encR (m : Back) (x : Vals m.tys) : D := tupD (encRs m (elts m.tys x))
/-- which ones are frozen: all but its own -/
def frzSel : Back → List V → Heap → (List V → Heap → Option α) → Option α
  | [], [], hp, K => K [] hp
  | (false, T) :: m, v :: vs, hp, K => frzK hp v fun d hp' => frzSel m vs hp' fun vs' hp'' => K (.d (coeT T d) :: vs') hp''
  | (true, _) :: m, v :: vs, hp, K => frzSel m vs hp fun vs' hp'' => K (v :: vs') hp''
  | _, _, _, _ => none
def decR1 : Bool × Ty → D → Option D
  | (true, .l t), .fr w xs => bif w == t.w then some (.sl t.w xs) else none
  | (false, _), d => some d
  | _, _ => none
def decRs : Back → List D → Option (List D)
  | [], [] => some []
  | m :: ms, d :: ds => match decR1 m d with
    | some e => match decRs ms ds with
      | some es => some (e :: es)
      | none => none
    | none => none
  | _, _ => none
def partsV : V → List V
  | .tp vs => vs
  | .d (.tp ds) => ds.map .d
  | v => [v]
def oneRes : Back → Bool
  | [_] => true
  | _ => false
def expR (m : Back) (v : V) (hp : Heap) (K : Vals m.tys → Option α) : Option α :=
  frzSel m (bif oneRes m then [v] else partsV v) hp fun vs hp' => outsK vs hp' fun ds _ => match decRs m ds with
    | some es => match decAll m.tys es with
      | some x => K x
      | none => none
    | none => none
/-- arguments -/
def argV (As : Shs) (x : Vals As.tys) : List V := (As.put [] (elts As.tys x)).1
def argD (As : Shs) (x : Vals As.tys) : List D := match allD (argV As x) with
  | some ds => ds
  | none => []
def fnK (P : Program) (H : HK) (L : Loops) (g : FuncId) (As : Shs) (m : Back) (x : Vals As.tys) (K : Vals m.tys → Option α) : Option α :=
  bodyK P H L g (argV As x) 0 [] fun v _ hp => expR m v hp K
def coeA : Shs → List D → List D
  | .cons s r, d :: ds => (match s with
    | .x T => coeT T d
    | _ => d) :: coeA r ds
  | _, ds => ds
def decArgs (As : Shs) (ds : List D) : Option (Vals As.tys) := match As.get [] [] ((coeA As ds).map .d) with
  | some hs => decAll As.tys hs
  | none => none
def fnRow (g : FuncId) (As : Shs) (m : Back) (F : Vals As.tys → Option (Vals m.tys)) : Row := ⟨g, Vals As.tys, Vals m.tys, decArgs As, F, encR m, fun r _ K => K (encR m r), fun _ _ _ => rfl⟩

theorem coeA_rel {w : World} {I : Mem} : ∀ {As : Shs} {ds : List D} {f : Nat → Value}, (∀ (j : Nat) (d : D), ds[j]? = some d → RelD w I d (f j)) → ∀ (j : Nat) (d : D), (coeA As ds)[j]? = some d → RelD w I d (f j)
  | .nil, ds, f, h, j, d, hj => by simp only [coeA] at hj; exact h j d hj
  | .cons s r, [], f, h, j, d, hj => by simp [coeA] at hj
  | .cons s r, d0 :: ds, f, h, j, d, hj => by
    simp only [coeA] at hj
    cases j with
    | zero =>
      simp only [List.getElem?_cons_zero, Option.some.injEq] at hj
      subst hj
      split
      · exact coeT_rel (h 0 d0 rfl)
      · exact h 0 d0 rfl
    | succ j => exact coeA_rel (f := fun j => f (j + 1)) (fun j d hj => h (j + 1) d (by simpa using hj)) j d (by simpa using hj)
theorem coeA_len : ∀ {As : Shs} {ds : List D}, (coeA As ds).length = ds.length
  | .nil, ds => rfl
  | .cons s r, [] => rfl
  | .cons s r, d0 :: ds => by simp only [coeA, List.length_cons, coeA_len]
theorem decArgs_argD {As : Shs} {ds : List D} {x : Vals As.tys} (h : decArgs As ds = some x) : argD As x = coeA As ds := by
  unfold decArgs at h
  split at h
  · rename_i hs hg
    have := decAll_elts h
    obtain ⟨_, h2⟩ := As.get_put _ _ hg
    have h3 := (h2 []).1
    rw [List.append_nil] at h3
    have h4 := rens_allD h3.symm
    unfold argD argV
    rw [this, h4, allD_map]
  · cases h
theorem PCall.coe {G : Nat → Option (List D)} {g : FuncId} {ds ds' : List D} {q : D} (h : PCall P G g ds' q) (hl : ds'.length = ds.length) (hr : ∀ (w : World) (I : Mem) (f : Nat → Value), (∀ (j : Nat) (d : D), ds[j]? = some d → RelD w I d (f j)) → ∀ (j : Nat) (d : D), ds'[j]? = some d → RelD w I d (f j)) : PCall P G g ds q := by
  intro w I K vs hg hI hK hd hsz hargs
  exact h w I K vs hg hI hK hd (by rw [hl]; exact hsz) (hr w I _ hargs)

/-! what it hands back is so -/
theorem frzSel_sound {n : Nat} : ∀ {m : Back} {vs : List V} {hp : Heap} {K : List V → Heap → Option α}, frzSel m vs hp K = some r → ∃ vs' hp', K vs' hp' = some r ∧ vs'.length = vs.length ∧ ∀ (c : Cf) (us : List Value), RelH c n hp → RelL c n vs us → ∃ c', Frz c n hp hp' c' ∧ RelL c' n vs' us
  | [], [], hp, K, h => ⟨[], hp, h, rfl, fun c us hH hL => ⟨c, .refl hH, hL⟩⟩
  | (b, T) :: m, v :: vs, hp, K, h => by
    cases b with
    | false =>
      simp only [frzSel] at h
      obtain ⟨d, hp', h1, h2⟩ := frzK_sound h
      obtain ⟨vs', hp'', h3, h4, h5⟩ := frzSel_sound (n := n) h2
      refine ⟨_, hp'', h3, by simp [h4], fun c us hH hL => ?_⟩
      cases us with
      | nil => have := hL.1; simp at this
      | cons u us =>
        obtain ⟨u', hu, hru⟩ := hL.2 0 v rfl
        simp only [List.getElem?_cons_zero, Option.some.injEq] at hu
        subst hu
        obtain ⟨c1, hF1, hd⟩ := frz_sound v c hp hp' d u h1 hH hru
        obtain ⟨c2, hF2, hL2⟩ := h5 c1 us hF1.heap ⟨by simpa using hL.1, fun j x hj => by
          obtain ⟨y, hy, hry⟩ := hL.2 (j + 1) x (by simpa using hj)
          exact ⟨y, by simpa using hy, hry.mono hF1.ext (Nat.le_refl n)⟩⟩
        refine ⟨c2, hF1.trans hF2, by simpa using hL2.1, fun j x hj => ?_⟩
        cases j with
        | zero =>
          simp only [List.getElem?_cons_zero, Option.some.injEq] at hj
          subst hj
          exact ⟨u, rfl, .d _ _ ((coeT_rel hd).mono hF2.ext.kept)⟩
        | succ j => simpa using hL2.2 j x (by simpa using hj)
    | true =>
      simp only [frzSel] at h
      obtain ⟨vs', hp'', h3, h4, h5⟩ := frzSel_sound (n := n) h
      refine ⟨_, hp'', h3, by simp [h4], fun c us hH hL => ?_⟩
      cases us with
      | nil => have := hL.1; simp at this
      | cons u us =>
        obtain ⟨u', hu, hru⟩ := hL.2 0 v rfl
        simp only [List.getElem?_cons_zero, Option.some.injEq] at hu
        subst hu
        obtain ⟨c2, hF2, hL2⟩ := h5 c us hH ⟨by simpa using hL.1, fun j x hj => by
          obtain ⟨y, hy, hry⟩ := hL.2 (j + 1) x (by simpa using hj)
          exact ⟨y, by simpa using hy, hry⟩⟩
        refine ⟨c2, hF2, by simpa using hL2.1, fun j x hj => ?_⟩
        cases j with
        | zero =>
          simp only [List.getElem?_cons_zero, Option.some.injEq] at hj
          subst hj
          exact ⟨u, rfl, hru.mono hF2.ext (Nat.le_refl n)⟩
        | succ j => simpa using hL2.2 j x (by simpa using hj)
  | [], _ :: _, hp, K, h => by simp [frzSel] at h
  | (false, _) :: _, [], hp, K, h => by simp [frzSel] at h
  | (true, _) :: _, [], hp, K, h => by simp [frzSel] at h
theorem decRs_enc : ∀ {m : Back} {ds es : List D}, decRs m ds = some es → encRs m es = ds
  | [], [], es, h => by simp only [decRs, Option.some.injEq] at h; subst h; rfl
  | a :: m, d :: ds, es, h => by
    simp only [decRs] at h
    split at h
    · rename_i e h1
      split at h
      · rename_i es' h2
        injection h with h
        subst h
        simp only [encRs, decRs_enc h2]
        congr 1
        unfold decR1 at h1
        split at h1
        · rename_i t w xs
          obtain ⟨h3, h4⟩ := cond_some h1
          injection h4 with h4
          subst h4
          simp only [encR1]
          rw [show w = t.w by simpa using h3]
        · injection h1 with h1; subst h1; rfl
        · cases h1
      · cases h
    · cases h
  | [], _ :: _, _, h => by cases h
  | _ :: _, [], _, h => by cases h
theorem partsV_rel {c : Cf} {n : Nat} {v : V} {u : Value} (h : RelV c n v u) (hv : (∃ vs, v = .tp vs) ∨ ∃ ds, v = .d (.tp ds)) : ∃ us : Array Value, u = .tuple us ∧ RelL c n (partsV v) us.toList := by
  rcases hv with ⟨vs, rfl⟩ | ⟨ds, rfl⟩
  · cases h with
    | tp _ us hl hh =>
      refine ⟨us, rfl, by simpa [partsV] using hl, fun j x hj => ?_⟩
      have hlt := (List.getElem?_eq_some_iff.1 hj).1
      refine ⟨us.getD j undef, ?_, hh j x hj⟩
      simp only [partsV] at hlt
      rw [Array.getElem?_toList, Array.getD_eq_getD_getElem?, Array.getElem?_eq_getElem (by omega)]; rfl
  · have := h.inv_d
    cases this with
    | tp _ us hl hh =>
      refine ⟨us, rfl, by simpa [partsV] using hl, fun j x hj => ?_⟩
      simp only [partsV, List.getElem?_map] at hj
      obtain ⟨d, hd, rfl⟩ := Option.map_eq_some_iff.1 hj
      have hlt := (List.getElem?_eq_some_iff.1 hd).1
      refine ⟨us.getD j undef, ?_, .d _ _ (hh j d hd)⟩
      rw [Array.getElem?_toList, Array.getD_eq_getD_getElem?, Array.getElem?_eq_getElem (by omega)]; rfl
theorem parts_not {v : V} (h1 : ∀ vs, v ≠ .tp vs) (h2 : ∀ ds, v ≠ .d (.tp ds)) : partsV v = [v] := by
  unfold partsV
  split
  · exact absurd rfl (h1 _)
  · exact absurd rfl (h2 _)
  · rfl
theorem frzSel_len : ∀ {m : Back} {vs : List V} {hp : Heap} {K : List V → Heap → Option α}, frzSel m vs hp K = some r → vs.length = m.length
  | [], [], hp, K, h => rfl
  | (false, T) :: m, v :: vs, hp, K, h => by
    simp only [frzSel] at h
    obtain ⟨d, hp', h1, h2⟩ := frzK_sound h
    simp only [List.length_cons, frzSel_len h2]
  | (true, T) :: m, v :: vs, hp, K, h => by
    simp only [frzSel] at h
    simp only [List.length_cons, frzSel_len h]
  | [], _ :: _, hp, K, h => by simp [frzSel] at h
  | (false, _) :: _, [], hp, K, h => by simp [frzSel] at h
  | (true, _) :: _, [], hp, K, h => by simp [frzSel] at h
theorem expR_sound {n : Nat} {m : Back} {v : V} {hp : Heap} {x : Vals m.tys} (h : expR m v hp some = some x) : ∃ v2 hp2, expD hp2 v2 = some (encR m x) ∧ ∀ (c : Cf) (u : Value), RelH c n hp → RelV c n v u → ∃ c', Frz c n hp hp2 c' ∧ RelV c' n v2 u := by
  unfold expR at h
  have hlen := frzSel_len h
  obtain ⟨vs', hp2, h1, h2, h3⟩ := frzSel_sound (n := n) h
  obtain ⟨ds, hp3, h4, h5⟩ := outsK_sound h1
  have henc : encR m x = tupD ds := by
    split at h5
    · rename_i es he
      split at h5
      · rename_i y hy
        injection h5 with h5
        subst h5
        unfold encR
        rw [decAll_elts hy, decRs_enc he]
      · cases h5
    · cases h5
  cases hm : oneRes m
  · -- several
    rw [hm] at hlen h2 h3
    simp only [cond_false] at hlen h2 h3
    have hml : m.length ≠ 1 := by
      intro e
      match m, e with
      | [_], _ => cases hm
    have hv : (∃ vs, v = .tp vs) ∨ ∃ ds, v = .d (.tp ds) := by
      apply Classical.byContradiction
      intro hn
      have h1 : ∀ vs, v ≠ .tp vs := fun vs e => hn (.inl ⟨vs, e⟩)
      have h2 : ∀ ds, v ≠ .d (.tp ds) := fun ds e => hn (.inr ⟨ds, e⟩)
      rw [parts_not h1 h2] at hlen
      exact hml hlen.symm
    have hdl : ds.length = vs'.length := expTops_len h4
    refine ⟨.tp vs', hp2, ?_, fun c u hH hr => ?_⟩
    · simp only [expD, h4, Option.map_some, henc]
      have : tupD ds = .tp ds := by
        unfold tupD
        split
        · rename_i d
          have : vs'.length = 1 := hdl.symm
          omega
        · rfl
      rw [this]
    · obtain ⟨us, rfl, hL⟩ := partsV_rel hr hv
      obtain ⟨c', hF, hL'⟩ := h3 c us.toList hH hL
      refine ⟨c', hF, .tp _ _ (by simpa using hL'.1) fun j x hj => ?_⟩
      obtain ⟨w, hw, hrw⟩ := hL'.2 j x hj
      rw [Array.getElem?_toList] at hw
      rw [Array.getD_eq_getD_getElem?, hw]
      exact hrw
  · -- one
    rw [hm] at hlen h2 h3
    simp only [cond_true, List.length_cons, List.length_nil] at hlen h2 h3
    match vs', h2 with
    | [v2], _ =>
    refine ⟨v2, hp2, ?_, fun c u hH hr => ?_⟩
    · simp only [expTops] at h4
      split at h4
      · rename_i d hp' he
        simp only [Option.some.injEq, Prod.mk.injEq] at h4
        obtain ⟨rfl, rfl⟩ := h4
        rw [henc]
        show expD hp2 v2 = some d
        unfold expD
        split
        · rename_i vs
          simp [expTop, frz] at he
        · rw [he]; rfl
      · cases h4
    · obtain ⟨c', hF, hL'⟩ := h3 c [u] hH ⟨rfl, fun j x hj => by
        cases j with
        | zero => simp only [List.getElem?_cons_zero, Option.some.injEq] at hj; subst hj; exact ⟨u, rfl, hr⟩
        | succ j => simp at hj⟩
      obtain ⟨w, hw, hrw⟩ := hL'.2 0 v2 rfl
      simp only [List.getElem?_cons_zero, Option.some.injEq] at hw
      subst hw
      exact ⟨c', hF, hrw⟩
where
  expTops_len : ∀ {vs : List V} {hp hp' : Heap} {ds : List D}, expTops hp vs = some (ds, hp') → ds.length = vs.length
    | [], hp, hp', ds, h => by
      simp only [expTops, Option.some.injEq, Prod.mk.injEq] at h
      rw [← h.1]; rfl
    | v :: vs, hp, hp', ds, h => by
      simp only [expTops] at h
      split at h
      · split at h
        · rename_i h2
          simp only [Option.some.injEq, Prod.mk.injEq] at h
          rw [← h.1, List.length_cons, List.length_cons, expTops_len h2]
        · cases h
      · cases h
theorem argV_argD {As : Shs} {x : Vals As.tys} (h : (allD (argV As x)).isSome = true) : argV As x = (argD As x).map .d := by
  unfold argD
  cases hd : allD (argV As x) with
  | none => rw [hd] at h; cases h
  | some ds => exact allD_spec _ _ hd
/-- a function is told -/
theorem fnK_sound {H : HK} (hok : HKOK P H) {L : Loops} {g : FuncId} (hL : LoopsOf P H.G 0 L g) {As : Shs} {m : Back} {a : Vals As.tys} (hd : (allD (argV As a)).isSome = true) {x : Vals m.tys} (h : fnK P H L g As m a some = some x) : Enters P g ∧ PCall P H.G g (argD As a) (encR m x) := by
  unfold fnK at h
  obtain ⟨v, n', hp', h1, h2, h3⟩ := bodyK_sound hok hL h
  obtain ⟨v2, hp2, h4, h5⟩ := expR_sound (n := n') h3
  refine ⟨h1, pcall_of (v := v2) (n := n') (hp := hp2) ?_ h4⟩
  rw [argV_argD hd] at h2
  intro c vs hG hg hH hRL
  refine (h2 c vs hG hg hH hRL).mono ?_
  rintro e w' ⟨u, c', rfl, rfl, hO⟩
  obtain ⟨c2, hF, hr⟩ := h5 c' u hO.heap hO.rel
  exact ⟨u, c2, rfl, hF.w.symm, hO.ext.trans hF.ext hO.le, hO.le, hF.heap, hr⟩
/-- arguments that are data -/
theorem row_told {H : HK} (hok : HKOK P H) {L : Loops} {g : FuncId} (hL : LoopsOf P H.G 0 L g) {As : Shs} {m : Back} {F : Vals As.tys → Option (Vals m.tys)} (hd : ∀ a, (allD (argV As a)).isSome = true) (h : ∀ a, fnK P H L g As m a some = F a) : RowOK P H.G (fnRow g As m F) := by
  have key : ∀ (ds : List D) (a : Vals As.tys) (q : Vals m.tys), decArgs As ds = some a → F a = some q → Enters P g ∧ PCall P H.G g ds (encR m q) := ?_
  · exact fun ds a q => key ds a q
  intro ds a q ha hq
  have hq' : fnK P H L g As m a some = some q := (h a).trans hq
  obtain ⟨h1, h2⟩ := fnK_sound hok hL (hd a) hq'
  refine ⟨h1, ?_⟩
  rw [decArgs_argD ha] at h2
  exact h2.coe coeA_len fun w I f hf => coeA_rel hf
/-! ### lists of what is told -/
def lp : List (Nat × Summ) → Loops
  | [], _ => .no
  | x :: r, k => bif x.1 == k then .yes x.2 else lp r k
def placeAt (c : Code) (k : Nat) : Code := match nodeAt c k with
  | some b => b
  | none => .skip
def bodyAt (c : Code) (k : Nat) : Code := match nodeAt c k with
  | some (.loop b) => b
  | _ => .skip
def codeOf (P : Program) (g : FuncId) : Code := match fnOf P g with
  | some d => d.code
  | none => .skip
def LpOK (P : Program) (G : Nat → Option (List D)) (nt n0 : Nat) (c : Code) : List (Nat × Summ) → Prop
  | [] => True
  | x :: r => SummOK P G nt n0 (placeAt c x.1) x.2 ∧ LpOK P G nt n0 c r
section
variable {G : Nat → Option (List D)} {nt n0 : Nat}
theorem lp_sem {c : Code} : ∀ {l : List (Nat × Summ)}, LpOK P G nt n0 c l → LoopsSem P G nt n0 (lp l) c 0
  | [], _, k, node, hn, s, hs => by cases hs
  | x :: r, h, k, node, hn, s, hs => by
    simp only [lp, Nat.zero_add] at hs
    cases hb : (x.1 == k) <;> rw [hb] at hs
    · simp only [cond_false] at hs
      exact lp_sem h.2 k node hn s (by rw [Nat.zero_add]; exact hs)
    · simp only [cond_true, Told.yes.injEq] at hs
      subst hs
      have hk : x.1 = k := by simpa using hb
      have := h.1
      rw [hk] at this
      simp only [placeAt, hn] at this
      exact this
theorem lp_of {g : FuncId} {l : List (Nat × Summ)} (h : LpOK P G (ntOf P g) n0 (codeOf P g) l) : LoopsOf P G n0 (lp l) g := by
  intro d hd
  have e1 : ntOf P g = d.nt := by simp only [ntOf, hd]
  have e2 : codeOf P g = d.code := by simp only [codeOf, hd]
  rw [e1, e2] at h
  exact lp_sem h
/-- a loop in a piece of code -/
theorem loop_sum {H : HK} (hok : HKOK P H) {c : Code} {k : Nat} {body : Code} (hn : placeAt c k = .loop body) (hc : okCode nt body = true) {l : List (Nat × Summ)} (hL : LpOK P H.G nt n0 body l) (sh : SSh) (os : PEnds) (ho : okEnds os = true)
    (t : Vals sh.tys → Option (Vals sh.tys ⊕ OutV os)) (h : ∀ s, turnK P H (lp l) body n0 sh os s some = t s) : SummOK P H.G nt n0 (placeAt c k) (NodeT.summ ⟨sh, os, rounds t⟩ n0) := by
  have key : ∀ s y, t s = some y → CodeN P H.G nt n0 body (sh.st (elts sh.tys s)) (turnEnd sh os y) := fun s y hy => turnK_sound hok hc (lp_sem hL) (by rw [h]; exact hy)
  intro st α K r hr
  unfold NodeT.summ at hr
  obtain ⟨ds, h1, hr⟩ := absK_sound hr
  split at hr
  · rename_i s hs
    obtain ⟨r', hf, hr⟩ := Option.bind_eq_some_iff.1 hr
    rw [outGo_is] at hr
    obtain ⟨n, hn'⟩ := rounds_some.1 hf
    have := (loopN_turns (e := fun s => sh.st (elts sh.tys s)) (x := outIs os) (okEnds_is ho) (fun s s' hs => key s _ hs) (fun s r hs => key s _ hs) n s r' hn').code
    have h2 : CodeN P H.G nt n0 (.loop body) (sh.st (elts sh.tys s)) (outIs os r') := this
    rw [decAll_elts hs] at h2
    rw [hn]
    exact ⟨_, _, CodeN.less h1 h2, hr⟩
  · cases hr
/-- a loop of which so many rounds are told: what it comes to can be worked out -/
theorem loop_sum_n {H : HK} (hok : HKOK P H) {c : Code} {k : Nat} {body : Code} (hn : placeAt c k = .loop body) (hc : okCode nt body = true) {l : List (Nat × Summ)} (hL : LpOK P H.G nt n0 body l) (sh : SSh) (os : PEnds) (ho : okEnds os = true)
    (t : Vals sh.tys → Option (Vals sh.tys ⊕ OutV os)) (h : ∀ s, turnK P H (lp l) body n0 sh os s some = t s) (m : Nat) : SummOK P H.G nt n0 (placeAt c k) (NodeT.summ ⟨sh, os, fun s => Turns t m s⟩ n0) := by
  have key : ∀ s y, t s = some y → CodeN P H.G nt n0 body (sh.st (elts sh.tys s)) (turnEnd sh os y) := fun s y hy => turnK_sound hok hc (lp_sem hL) (by rw [h]; exact hy)
  intro st α K r hr
  unfold NodeT.summ at hr
  obtain ⟨ds, h1, hr⟩ := absK_sound hr
  split at hr
  · rename_i s hs
    obtain ⟨r', hf, hr⟩ := Option.bind_eq_some_iff.1 hr
    rw [outGo_is] at hr
    have := (loopN_turns (e := fun s => sh.st (elts sh.tys s)) (x := outIs os) (okEnds_is ho) (fun s s' hs => key s _ hs) (fun s r hs => key s _ hs) m s r' hf).code
    have h2 : CodeN P H.G nt n0 (.loop body) (sh.st (elts sh.tys s)) (outIs os r') := this
    rw [decAll_elts hs] at h2
    rw [hn]
    exact ⟨_, _, CodeN.less h1 h2, hr⟩
  · cases hr
/-- another place in a piece of code -/
theorem place_sum {H : HK} (hok : HKOK P H) {c : Code} {k : Nat} (hc : okCode nt (placeAt c k) = true) {l : List (Nat × Summ)} (hL : LpOK P H.G nt n0 (placeAt c k) l) (sh : SSh) (os : PEnds)
    (f : Vals sh.tys → Option (OutV os)) (h : ∀ s, nodeK P H (lp l) (placeAt c k) n0 sh os s some = f s) : SummOK P H.G nt n0 (placeAt c k) (NodeT.summ ⟨sh, os, f⟩ n0) := by
  intro st α K r hr
  unfold NodeT.summ at hr
  obtain ⟨ds, h1, hr⟩ := absK_sound hr
  split at hr
  · rename_i s hs
    obtain ⟨r', hf, hr⟩ := Option.bind_eq_some_iff.1 hr
    rw [outGo_is] at hr
    have h2 := nodeK_sound hok hc (lp_sem hL) (y := r') (s := s) (by rw [h]; exact hf)
    rw [decAll_elts hs] at h2
    exact ⟨_, _, CodeN.less h1 h2, hr⟩
  · cases hr
end
def RowsOK (P : Program) (G : Nat → Option (List D)) : List Row → Prop
  | [] => True
  | w :: ws => RowOK P G w ∧ RowsOK P G ws
theorem rows_ok {G : Nat → Option (List D)} : ∀ {ws : List Row}, RowsOK P G ws → TabOK P G (tabF ws)
  | ws, h => tab_ok (all h)
where
  all : ∀ {ws : List Row}, RowsOK P G ws → ∀ w ∈ ws, RowOK P G w
    | [], _, w, hw => by cases hw
    | x :: ws, h, w, hw => by
      rcases List.mem_cons.1 hw with rfl | hw
      · exact h.1
      · exact all h.2 w hw
/-- a function of which only a closed call is told -/
def closedRow (g : FuncId) (q : D) : Row := ⟨g, Unit, Unit, fun ds => match ds with
  | [] => some ()
  | _ => none, fun _ => some (), fun _ => q, fun _ _ K => K q, fun _ _ _ => rfl⟩
theorem closed_ok {G : Nat → Option (List D)} {E : FuncId → Option (List D → Option (Bool × D))} (hE : ∀ g f, E g = some f → ExtOK P g (bare f)) {J : FuncId → Option TypeId} (hJ : InsAll P J) {T : List Row} (hT : RowsOK P G T) {g : FuncId} {q : D} (k : Nat) (h : (hsN P G (fun g => (E g).map bare) J (tabF T) k).pcall g [] = some q) : RowOK P G (closedRow g q) := by
  have key : ∀ (ds : List D) (a : Unit), (closedRow g q).dec ds = some a → Enters P g ∧ PCall P G g ds q := by
    intro ds a ha
    simp only [closedRow] at ha
    split at ha
    · have := (hsN_good (P := P) (G := G) (E := fun g => (E g).map bare) (J := J) (T := tabF T) (fun g f h => by
        obtain ⟨f', h1, rfl⟩ := Option.map_eq_some_iff.1 h
        exact hE g f' h1) hJ (rows_ok hT) k).1.pcall g [] _ h
      rw [hsN_G] at this
      exact this
    · cases ha
  exact fun ds a q' ha _ => key ds a ha
/-- an octet of a text, as a number -/
def bt (s : ByteArray) (i : Nat) : Int := ((s.data.toList.getD i 0).toNat : Int)
/-- texts that are told -/
def bs (l : List UInt8) : ByteArray := ⟨l.toArray⟩
/-- which function a place holds -/
def isFnAt (st : St) (t : Nat) (g : FuncId) : Bool := match get st.f t with
  | .fn g' _ => g' == g
  | .d (.fn g' _) => g' == g
  | _ => false
/-- two ways to tell a place, by the function that a slot holds -/
def altS (t : Nat) (g : FuncId) (a b : Summ) : Summ := fun st _ K => bif isFnAt st t g then a st K else b st K
theorem alt_sum {P : Program} {G : Nat → Option (List D)} {nt n0 : Nat} {c : Code} {t : Nat} {g : FuncId} {a b : Summ} (ha : SummOK P G nt n0 c a) (hb : SummOK P G nt n0 c b) : SummOK P G nt n0 c (altS t g a b) := by
  intro st α K r h
  unfold altS at h
  cases hf : isFnAt st t g <;> rw [hf] at h
  · exact hb st α K r h
  · exact ha st α K r h
/-- does a state fit a shape? -/
def fits (n0 : Nat) (sh : SSh) (st : St) : Bool := match absK n0 sh st some with
  | some ds => (match decAll sh.tys ds with
    | some _ => true
    | none => false)
  | none => false
/-- two ways to tell a place: the first one, where the state fits it -/
def orS (n0 : Nat) (sh : SSh) (a b : Summ) : Summ := fun st _ K => bif fits n0 sh st then a st K else b st K
theorem or_sum {P : Program} {G : Nat → Option (List D)} {nt n0 n1 : Nat} {sh : SSh} {c : Code} {a b : Summ} (ha : SummOK P G nt n0 c a) (hb : SummOK P G nt n0 c b) : SummOK P G nt n0 c (orS n1 sh a b) := by
  intro st α K r h
  unfold orS at h
  cases hf : fits n1 sh st <;> rw [hf] at h
  · exact hb st α K r h
  · exact ha st α K r h
/-! ### places in functions that are gone into -/
abbrev ILp := List (FuncId × Nat × List (Nat × Summ))
def ilp : ILp → FuncId → Nat → Loops
  | [], _, _ => fun _ => .no
  | x :: r, g, n => bif x.1 == g && x.2.1 == n then lp x.2.2 else ilp r g n
def ILpOK (P : Program) (G : Nat → Option (List D)) : ILp → Prop
  | [] => True
  | x :: r => LpOK P G (ntOf P x.1) x.2.1 (codeOf P x.1) x.2.2 ∧ ILpOK P G r
theorem ilp_ok {P : Program} {G : Nat → Option (List D)} : ∀ {l : ILp}, ILpOK P G l → ∀ g n0, LoopsOf P G n0 (ilp l g n0) g
  | [], _, g, n0 => fun d hd => noL_ok
  | x :: r, h, g, n0 => by
    simp only [ilp]
    cases hb : (x.1 == g && x.2.1 == n0)
    · exact ilp_ok h.2 g n0
    · simp only [Bool.and_eq_true, beq_iff_eq] at hb
      obtain ⟨h1, h2⟩ := hb
      subst h1
      subst h2
      exact lp_of h.1
/-! ranges over functions, as they stand in the code -/
def rfs : Code → List (Code × Code)
  | .seq a b => rfs a ++ rfs b
  | .cond _ a b => rfs a ++ rfs b
  | .block _ c => rfs c
  | .loop c => rfs c
  | .rangeFunc _ _ a b => [(a, b)]
  | _ => []
def rfA (P : Program) (g : FuncId) (i : Nat) : Code := match (rfs (codeOf P g))[i]? with
  | some x => x.1
  | none => .skip
def rfB (P : Program) (g : FuncId) (i : Nat) : Code := match (rfs (codeOf P g))[i]? with
  | some x => x.2
  | none => .skip
/-! a function of a text that is told at some texts -/
def lookT {B : Type} : List (ByteArray × B) → ByteArray → Option B
  | [], _ => none
  | x :: r, a => bif decide (a.data.toList = x.1.data.toList) then some x.2 else lookT r a
theorem lookT_mem {B : Type} : ∀ {l : List (ByteArray × B)} {a : ByteArray} {q : B}, lookT l a = some q → (a, q) ∈ l
  | [], a, q, h => by cases h
  | x :: r, a, q, h => by
    simp only [lookT] at h
    by_cases hd : a.data.toList = x.1.data.toList
    · rw [decide_eq_true hd, cond_true] at h
      injection h with h
      rw [show a = x.1 from ByteArray.ext (Array.toList_inj.1 hd), ← h]
      exact List.mem_cons_self
    · rw [decide_eq_false hd, cond_false] at h
      exact List.mem_cons_of_mem _ (lookT_mem h)
abbrev AsT : Shs := .cons (.x .s) .nil
theorem told_texts {G : Nat → Option (List D)} {E : FuncId → Option (List D → Option (Bool × D))} (hE : ∀ g f, E g = some f → ExtOK P g (bare f)) {J : FuncId → Option TypeId} (hJ : InsAll P J) {T : List Row} (hT : RowsOK P G T) {g : FuncId} {m : Back} (tab : List (ByteArray × Vals m.tys)) (k : Nat)
    (h : tab.map (fun x => (hsN P G (fun g => (E g).map bare) J (tabF T) k).pcall g [.s x.1]) = tab.map (fun x => some (encR m x.2))) : RowOK P G (fnRow g AsT m (lookT tab)) := by
  have key : ∀ (ds : List D) (a : ByteArray) (q : Vals m.tys), decArgs AsT ds = some a → lookT tab a = some q → Enters P g ∧ PCall P G g ds (encR m q) := by
    intro ds a q ha hq
    have h1 := List.map_inj_left.1 h _ (lookT_mem hq)
    have := (hsN_good (P := P) (G := G) (E := fun g => (E g).map bare) (J := J) (T := tabF T) (fun g f h => by
        obtain ⟨f', h1, rfl⟩ := Option.map_eq_some_iff.1 h
        exact hE g f' h1) hJ (rows_ok hT) k).1.pcall g [.s a] _ h1
    rw [hsN_G] at this
    refine ⟨this.1, ?_⟩
    have hds := (decArgs_argD ha).symm
    exact PCall.coe (ds' := argD AsT a) this.2 (by rw [← hds]; exact coeA_len) fun w I f hf => by rw [← hds]; exact coeA_rel hf
  exact fun ds a q => key ds a q
/-! copies of lists: of nothing, what is nothing, or a slice of no room -/
abbrev AsL (T : Ty) : Shs := .cons (.x (.l T)) .nil
def encC (T : Ty) : List T.den → D
  | [] => .fr 0 (.t T [])
  | a :: l => .fr T.w (.t T (a :: l))
def splC (T : Ty) (x : List T.den) {α : Type} (K : D → Option α) : Option α := match x with
  | [] => K (.fr 0 (.t T []))
  | a :: l => K (.fr T.w (.t T (a :: l)))
def cloneRow (g : FuncId) (T : Ty) (F : List T.den → Option (List T.den)) : Row := ⟨g, List T.den, List T.den, decArgs (AsL T), F, encC T, fun r _ K => splC T r K, fun r _ _ => by cases r <;> rfl⟩
abbrev mL (T : Ty) : Back := [(true, .l T)]
theorem clone_row {G : Nat → Option (List D)} {H : HK} (hok : HKOK P H) {g : FuncId} {T : Ty} {F : List T.den → Option (List T.den)} (hG : H.G = G)
    (h1 : ∀ (a : T.den) (l : List T.den), fnK P H (lp []) g (AsL T) (mL T) (a :: l : List T.den) some = F (a :: l : List T.den)) (hF : ∀ l q, F l = some q → q = l)
    (h0 : ∀ (w : World) (ad : Option Addr) (cap : Nat), (ad = none → cap = 0) → Calls P g #[.slice ad 0 cap] w fun e w' => ∃ ad', e = .returned (.slice ad' 0 0) ∧ w.heap.size ≤ w'.heap.size ∧ (∀ b, b < w.heap.size → w'.heap[b]? = w.heap[b]?) ∧ w'.os = w.os ∧ w'.tape = w.tape ∧ w'.output = w.output) (he : Enters P g) : RowOK P G (cloneRow g T F) := by
  subst hG
  have key : ∀ (ds : List D) (a q : List T.den), decArgs (AsL T) ds = some a → F a = some q → Enters P g ∧ PCall P H.G g ds (encC T q) := by
    intro ds a q ha hq
    have hql := hF a q hq
    subst hql
    have hds := (decArgs_argD ha).symm
    cases q with
    | cons x l =>
      obtain ⟨g1, g2⟩ := fnK_sound (L := lp []) (As := AsL T) (m := mL T) hok (lp_of (l := []) trivial) (a := (x :: l : List T.den)) rfl ((h1 x l).trans hq)
      refine ⟨g1, ?_⟩
      exact g2.coe (by rw [← hds]; exact coeA_len) fun w I f hf => by rw [← hds]; exact coeA_rel hf
    | nil =>
      refine ⟨he, PCall.coe (ds' := argD (AsL T) ([] : List T.den)) ?_ (by rw [← hds]; exact coeA_len) fun w I f hf => by rw [← hds]; exact coeA_rel hf⟩
      intro w I K vs hg hI hK hd hsz hargs
      have hr := hargs 0 (.sl T.w (.t T [])) rfl
      have hs : vs.size = 1 := hsz
      rw [Array.getD_eq_getD_getElem?, Array.getElem?_eq_getElem (by omega)] at hr
      simp only [Option.getD_some] at hr
      obtain ⟨v, hv⟩ : ∃ v, vs[0] = v := ⟨_, rfl⟩
      have hvs : vs = #[v] := by
        refine Array.ext (by simpa using hs) fun i hi hi' => ?_
        match i, hi with
        | 0, _ => exact hv
        | i + 1, hi => omega
      rw [hv] at hr
      obtain ⟨ad, cap, rfl, hc⟩ : ∃ ad cap, v = .slice ad 0 cap ∧ (ad = none → cap = 0) := by
        cases hr with
        | sl _ _ a cap => exact ⟨some a, cap, rfl, fun e => by cases e⟩
        | sl0 _ _ ad cap _ hc => exact ⟨ad, cap, rfl, hc⟩
      rw [hvs]
      refine (h0 w ad cap hc).mono ?_
      rintro e w' ⟨ad', rfl, b1, b2, b3, b4, b5⟩
      refine ⟨_, I, rfl, b1, fun b hb => ⟨hb, b2 b (hI b hb)⟩, fun b hb => b2 b (hK b hb), fun b hb => ⟨Nat.lt_of_lt_of_le (hI b hb) b1, hd b hb⟩, fun b cs e fz hc => ⟨cs, ?_, rfl⟩, b3, b4, b5, ?_⟩
      · rw [b2 b (Array.getElem?_eq_some_iff.1 hc).1]; exact hc
      · exact .inr ⟨rfl, rfl, ad', rfl⟩
  exact fun ds a q => key ds a q
end Go.Fw
end
section
/- Readings of arguments, as typed data: numbers, texts, structs and slices of them. By this session. -/
set_option linter.unusedVariables false
set_option linter.unusedSimpArgs false
namespace Go.Fw
variable {P : Program}

mutual
/-- is a type of the program this one of plain data? -/
def okTy (P : Program) : Nat → TypeId → Ty → Bool
  | 0, _, _ => false
  | n + 1, t, T => match P.underlying t, T with
    | some .bool, .b => P.cellsOf t == 1
    | some (.int k), .i k' => decide (k = k') && P.cellsOf t == 1
    | some .string, .s => P.cellsOf t == 1
    | some (.slice e), .l T => P.cellsOf t == 1 && (okTy P n e T && (P.cellsOf e == T.w && Nat.blt 0 T.w))
    | some (.struct fs), .g T => okFs P n (P.cellsOf t) fs.toList 0 T
    | _, _ => false
def okFs (P : Program) : Nat → Nat → List Field → Nat → Ty → Bool
  | _, total, [], off, .u => off == total
  | 0, _, _, _, _ => false
  | n + 1, total, f :: fs, off, T => match fs, T with
    | [], T => f.offset == off && (okTy P n f.type T && (P.cellsOf f.type == T.w && off + T.w == total))
    | f' :: fs', .p a c => f.offset == off && (okTy P n f.type a && (P.cellsOf f.type == a.w && okFs P n total (f' :: fs') (off + a.w) c))
    | _, _ => false
  | _, _, _, _, _ => false
end
/-- data as they may be read -/
def Ty.fit : (T : Ty) → T.den → Prop
  | .b, _ => True
  | .s, x => x.size ≤ maxLen
  | .u, _ => True
  | .e, _ => True
  | .i k, n => (Lit.int k n).wf = true
  | .p a c, x => a.fit x.1 ∧ c.fit x.2
  | .g t, x => t.fit x
  | .l t, xs => xs.length ≤ maxLen ∧ ∀ x ∈ xs, t.fit x

def RelCs (w : World) (I : Mem) (ds : List D) (cs : List Value) : Prop := ds.length = cs.length ∧ ∀ (j : Nat) (d : D) (v : Value), ds[j]? = some d → cs[j]? = some v → RelD w I d v ∧ v.oneCell' = true
section
variable {H : Type} {enc : TypeId × Value → H} {w : World} {base : Nat} {spare : Nat → Bool} {held : Bool} {I : Mem}
theorem RelCs.one {d : D} {v : Value} (h : RelD w I d v) (h1 : v.oneCell' = true) : RelCs w I [d] [v] := by
  refine ⟨rfl, fun j d' v' hd hv => ?_⟩
  cases j with
  | zero => simp at hd hv; subst hd; subst hv; exact ⟨h, h1⟩
  | succ j => simp at hd
theorem RelCs.app {ds es : List D} {cs vs : List Value} (h : RelCs w I ds cs) (k : RelCs w I es vs) : RelCs w I (ds ++ es) (cs ++ vs) := by
  refine ⟨by simp [h.1, k.1], fun j d v hd hv => ?_⟩
  by_cases hj : j < ds.length
  · rw [List.getElem?_append_left hj] at hd
    rw [List.getElem?_append_left (by rw [← h.1]; exact hj)] at hv
    exact h.2 j d v hd hv
  · rw [List.getElem?_append_right (by omega)] at hd
    rw [List.getElem?_append_right (by rw [← h.1]; omega), ← h.1] at hv
    exact k.2 _ d v hd hv
theorem Ty.cells_len : ∀ (T : Ty) (x : T.den), (T.cells x).length = T.w
  | .b, _ => rfl
  | .s, _ => rfl
  | .u, _ => rfl
  | .e, _ => rfl
  | .i _, _ => rfl
  | .p a c, x => by simp only [Ty.cells, Ty.w, List.length_append, Ty.cells_len a, Ty.cells_len c]
  | .g t, x => Ty.cells_len t x
  | .l _, _ => rfl
theorem Ty.elt_width : ∀ (T : Ty) (x : T.den), (T.elt x).width = T.w
  | .b, _ => rfl
  | .s, _ => rfl
  | .u, _ => rfl
  | .e, _ => rfl
  | .i _, _ => rfl
  | .p a c, x => by simp only [Ty.elt, D.width, D.cells, List.length_append, Ty.cells_len, Ty.w]
  | .g t, x => Ty.cells_len t x
  | .l _, _ => rfl
theorem Ty.elt_cells : ∀ (T : Ty) (x : T.den), (T.elt x).cells = T.cells x
  | .b, _ => rfl
  | .s, _ => rfl
  | .u, _ => rfl
  | .e, _ => rfl
  | .i _, _ => rfl
  | .p _ _, _ => rfl
  | .g _, _ => rfl
  | .l _, _ => rfl
/-- a list, element by element -/
theorem list_of {α : Type} {n : Nat} {p : Nat → α → Prop} (h : ∀ i, i < n → ∃ x, p i x) : ∃ l : List α, l.length = n ∧ ∀ (i : Nat) (x : α), l[i]? = some x → p i x := by
  induction n with
  | zero => exact ⟨[], rfl, by simp⟩
  | succ n ih =>
    obtain ⟨l, h1, h2⟩ := ih fun i hi => h i (by omega)
    obtain ⟨x, hx⟩ := h n (by omega)
    refine ⟨l ++ [x], by simp [h1], fun i y hy => ?_⟩
    by_cases hi : i < l.length
    · rw [List.getElem?_append_left hi] at hy; exact h2 i y hy
    · rw [List.getElem?_append_right (by omega)] at hy
      have : i = n := by
        have := (List.getElem?_eq_some_iff.1 hy).1
        simp at this; omega
      subst this
      simp [h1] at hy
      subst hy; exact hx

theorem cells_some {a : Addr} {n : Nat} {cs : List Value} (h : w.cells? base a n = some cs) : cs.length = n ∧ ∀ (i : Nat) (v : Value), cs[i]? = some v → w.cell? (a.add i) = some v := by
  unfold World.cells? at h
  split at h
  · have h1 := mapM_some_length h
    refine ⟨by simpa using h1, fun i v hv => ?_⟩
    have hi := (List.getElem?_eq_some_iff.1 hv).1
    have hi' : i < n := by simp at h1; omega
    have h2 := mapM_some_get h i i (by simp [hi'])
    rw [h2]; exact hv
  · cases h
theorem cell_some {a : Addr} {v : Value} (h : w.cell? a = some v) : a.spot = none ∧ ∃ cs e fz, w.heap[a.block]? = some (.cells cs e fz) ∧ cs[a.off]? = some v := by
  unfold World.cell? at h
  split at h
  · rename_i cs e fz hb
    split at h
    · cases h
    · rename_i hs
      exact ⟨by simpa using hs, cs, e, fz, hb, h⟩
  · cases h
theorem add_block (a : Addr) (i : Nat) : (a.add i).block = a.block := by unfold Addr.add; split <;> rfl
theorem add_off (a : Addr) (i : Nat) : (a.add i).off = a.off + i := by
  unfold Addr.add
  split
  · rename_i h; rw [h]; rfl
  · rfl
theorem slice_rel {a : Addr} {len cap c : Nat} {T : Ty} (hc : c = T.w) (hw : 0 < T.w) (hcap : len ≤ cap) {l : List T.den} (hl : l.length = len)
    (h : ∀ (i : Nat) (y : T.den), l[i]? = some y → ∃ cs', w.cells? base (a.add (i * c)) c = some cs' ∧ RelCs w (fun b => b < w.heap.size) (T.cells y) cs') : RelD w (fun b => b < w.heap.size) (.sl T.w (.t T l)) (.slice (some a) len cap) := by
  subst hc
  by_cases h0 : len = 0
  · subst h0
    have : l = [] := List.eq_nil_of_length_eq_zero hl
    subst this
    exact .sl0 _ _ _ _ rfl (fun h => by cases h)
  · -- a cell of each element
    have cell : ∀ (i k : Nat) (y : T.den) (d : D), l[i]? = some y → (T.cells y)[k]? = some d → ∃ v, w.cell? ((a.add (i * T.w)).add k) = some v ∧ RelD w (fun b => b < w.heap.size) d v ∧ v.oneCell' = true := by
      intro i k y d hi hk
      obtain ⟨cs', h1, h2⟩ := h i y hi
      obtain ⟨h3, h4⟩ := cells_some h1
      have hkl := (List.getElem?_eq_some_iff.1 hk).1
      have hkc : k < cs'.length := by rw [← h2.1]; exact hkl
      have hv : cs'[k]? = some cs'[k] := List.getElem?_eq_getElem hkc
      obtain ⟨h5, h6⟩ := h2.2 k d _ hk hv
      exact ⟨_, h4 k _ hv, h5, h6⟩
    have get : ∀ i, i < len → ∃ y, l[i]? = some y := fun i hi => ⟨l[i]'(by omega), List.getElem?_eq_getElem (by omega)⟩
    have getC : ∀ (y : T.den) (k : Nat), k < T.w → ∃ d, (T.cells y)[k]? = some d := fun y k hk => ⟨(T.cells y)[k]'(by rw [Ty.cells_len]; exact hk), List.getElem?_eq_getElem (by rw [Ty.cells_len]; exact hk)⟩
    obtain ⟨y0, hy0⟩ := get 0 (by omega)
    obtain ⟨d0, hd0⟩ := getC y0 0 hw
    obtain ⟨v0, hv0, _, _⟩ := cell 0 0 y0 d0 hy0 hd0
    have e0 : (a.add (0 * T.w)).add 0 = a := by simp [Addr.add]
    rw [e0] at hv0
    obtain ⟨hsp, cs, e, fz, hb, _⟩ := cell_some hv0
    have at' : ∀ (i k : Nat) (y : T.den) (d : D), l[i]? = some y → (T.cells y)[k]? = some d → ∃ v, cs[a.off + i * T.w + k]? = some v ∧ RelD w (fun b => b < w.heap.size) d v ∧ v.oneCell' = true := by
      intro i k y d hi hk
      obtain ⟨v, h1, h2, h3⟩ := cell i k y d hi hk
      obtain ⟨_, cs1, e1, fz1, g1, g2⟩ := cell_some h1
      rw [add_block, add_block, hb] at g1
      injection g1 with g1
      injection g1 with g1
      subst g1
      rw [add_off, add_off] at g2
      exact ⟨v, g2, h2, h3⟩
    have flat : ∀ j, j < len * T.w → ∃ v, cs[a.off + j]? = some v ∧ v.oneCell' = true := by
      intro j hj
      have hq : j / T.w < len := Nat.div_lt_of_lt_mul (by rw [Nat.mul_comm]; exact hj)
      have hr : j % T.w < T.w := Nat.mod_lt _ hw
      obtain ⟨y, hy⟩ := get _ hq
      obtain ⟨d, hd⟩ := getC y _ hr
      obtain ⟨v, h1, _, h3⟩ := at' _ _ y d hy hd
      have : a.off + j / T.w * T.w + j % T.w = a.off + j := by
        have := Nat.div_add_mod j T.w
        rw [Nat.mul_comm] at this; omega
      rw [this] at h1
      exact ⟨v, h1, h3⟩
    have hpos : 0 < len * T.w := Nat.mul_pos (by omega) hw
    have hsz : a.off + len * T.w ≤ cs.size := by
      obtain ⟨v, hv, _⟩ := flat (len * T.w - 1) (by omega)
      have := (Array.getElem?_eq_some_iff.1 hv).1
      omega
    have hx : (Ls.t T l).xs.length = len := by simp [Ls.xs, hl]
    have := RelD.sl (w := w) (I := fun b => b < w.heap.size) T.w (.t T l) a cap cs e fz hsp (Array.getElem?_eq_some_iff.1 hb).1 hb (by rw [hx]; exact hcap) (fun x hx => by
        simp only [Ls.xs, List.mem_map] at hx
        obtain ⟨y, _, rfl⟩ := hx
        exact T.elt_width y) (by rw [hx]; exact hsz) (fun j hj => by
        rw [hx] at hj
        obtain ⟨v, hv, h1⟩ := flat j hj
        rw [Array.getD_eq_getD_getElem?, hv]; exact h1) (fun j k x d hj hk => by
        simp only [Ls.xs, List.getElem?_map] at hj
        obtain ⟨y, hy, rfl⟩ := Option.map_eq_some_iff.1 hj
        rw [Ty.elt_cells] at hk
        obtain ⟨v, h1, h2, _⟩ := at' j k y d hy hk
        rw [Array.getD_eq_getD_getElem?, h1]; exact h2)
    rw [hx] at this
    exact this

theorem read_ty (hI : True) : ∀ (n k : Nat) (t : TypeId) (T : Ty) (cs : List Value) (x : DataW H × List MemPlace), DataW.trod enc P w base spare held n t cs = some x → okTy P k t T = true →
    ∃ y : T.den, T.fit y ∧ RelCs w (fun b => b < w.heap.size) (T.cells y) cs := by
  intro n
  induction n with
  | zero => intro k t T cs x h _; simp [DataW.trod] at h
  | succ n ih =>
    intro k t T cs x h hk
    cases k with
    | zero => simp [okTy] at hk
    | succ k =>
      simp only [okTy] at hk
      split at hk
      · rename_i hu
        obtain ⟨b, rfl, _⟩ := DataW.trod_bool hu h
        exact ⟨b, trivial, .one (.b b) rfl⟩
      · rename_i ki kj hu
        simp only [Bool.and_eq_true, decide_eq_true_eq] at hk
        obtain ⟨rfl, _⟩ := hk
        obtain ⟨m, rfl, _, hw⟩ := DataW.trod_int hu h
        exact ⟨m, hw, .one (.i ki m) rfl⟩
      · rename_i hu
        obtain ⟨s, rfl, _, hw⟩ := DataW.trod_string hu h
        exact ⟨s, hw, .one (.s s) rfl⟩
      · rename_i e T hu
        simp only [Bool.and_eq_true, beq_iff_eq] at hk
        obtain ⟨_, hke, hce, hw0⟩ := hk
        have hw0 : 0 < T.w := by simpa [Nat.blt_eq] using hw0
        rcases DataW.trod_slice hu h with ⟨rfl, _⟩ | ⟨a, len, cap, elems, rest, m, hm, rfl, _, hb, hl, hcm, hlen, hel, _, _⟩
        · exact ⟨([] : List T.den), ⟨Nat.zero_le _, by simp⟩, .one (.sl0 _ _ _ _ rfl (fun _ => rfl)) rfl⟩
        · have hmn : m = n := by omega
          subst hmn
          obtain ⟨l, hll, hp⟩ := list_of (n := len) (p := fun i (y : T.den) => T.fit y ∧ ∃ cs', w.cells? base (a.add (i * P.cellsOf e)) (P.cellsOf e) = some cs' ∧ RelCs w (fun b => b < w.heap.size) (T.cells y) cs') (fun i hi => by
            have h1 := hel i hi
            rw [List.getElem?_eq_getElem (by omega)] at h1
            obtain ⟨cs', h2, h3⟩ := Option.bind_eq_some_iff.1 h1
            obtain ⟨y, h4, h5⟩ := ih k e T cs' _ h3 hke
            exact ⟨y, h4, cs', h2, h5⟩)
          refine ⟨l, ⟨by omega, fun x hx => ?_⟩, .one (slice_rel hce hw0 hl hll fun i y hy => (hp i y hy).2) rfl⟩
          obtain ⟨i, hi⟩ := List.getElem?_of_mem hx
          exact (hp i x hi).1
      · rename_i fs T hu
        obtain ⟨xs, m, hm, _, hl, hlen, hf⟩ := DataW.trod_struct hu h
        have hmn : m = n := by omega
        subst hmn
        obtain ⟨y, h1, h2, _⟩ := fields cs ih fs.toList k 0 T (by rw [hl]; exact hk) (fun f hf' => by
          obtain ⟨i, hi⟩ := List.getElem?_of_mem hf'
          rw [Array.getElem?_toList] at hi
          have hlt : i < xs.length := by rw [hlen]; exact (Array.getElem?_eq_some_iff.1 hi).1
          exact ⟨xs[i], by rw [hf i f hi, List.getElem?_eq_getElem hlt]⟩)
        exact ⟨y, h1, by rw [List.drop_zero] at h2; exact h2⟩
      · cases hk
where
  fields {n : Nat} (cs : List Value) (ih : ∀ (k : Nat) (t : TypeId) (T : Ty) (cs : List Value) (x : DataW H × List MemPlace), DataW.trod enc P w base spare held n t cs = some x → okTy P k t T = true → ∃ y : T.den, T.fit y ∧ RelCs w (fun b => b < w.heap.size) (T.cells y) cs) :
      ∀ (fs : List Field) (k off : Nat) (T : Ty), okFs P k cs.length fs off T = true → (∀ f ∈ fs, ∃ x, DataW.trod enc P w base spare held n f.type ((cs.drop f.offset).take (P.cellsOf f.type)) = some x) →
      ∃ y : T.den, T.fit y ∧ RelCs w (fun b => b < w.heap.size) (T.cells y) (cs.drop off) ∧ off ≤ cs.length
    | [], k, off, T, hk, _ => by
      have h2 : T = .u ∧ off = cs.length := by
        cases k <;> cases T <;> simp [okFs] at hk <;> exact ⟨rfl, hk⟩
      obtain ⟨rfl, h2⟩ := h2
      subst h2
      exact ⟨(), trivial, ⟨by simp [Ty.cells], fun j d v hd => by simp [Ty.cells] at hd⟩, Nat.le_refl _⟩
    | [f], k, off, T, hk, hx => by
      cases k with
      | zero => simp [okFs] at hk
      | succ k =>
        simp only [okFs, Bool.and_eq_true, beq_iff_eq] at hk
        obtain ⟨ho, hkt, hc, ht⟩ := hk
        obtain ⟨x, hx0⟩ := hx f List.mem_cons_self
        obtain ⟨y, h1, h2⟩ := ih k f.type T _ x hx0 hkt
        refine ⟨y, h1, ?_, by omega⟩
        rw [ho, hc, List.take_of_length_le (by simp; omega)] at h2
        exact h2
    | f :: f' :: fs, k, off, T, hk, hx => by
      cases k with
      | zero => simp [okFs] at hk
      | succ k =>
        cases T <;> first | (simp [okFs] at hk; done) | skip
        rename_i a c
        simp only [okFs, Bool.and_eq_true, beq_iff_eq] at hk
        obtain ⟨ho, hkt, hc, hr⟩ := hk
        obtain ⟨x, hx0⟩ := hx f List.mem_cons_self
        obtain ⟨y, h1, h2⟩ := ih k f.type a _ x hx0 hkt
        obtain ⟨z, h3, h4, h5⟩ := fields cs ih (f' :: fs) k _ c hr (fun g hg => hx g (List.mem_cons_of_mem _ hg))
        refine ⟨(y, z), ⟨h1, h3⟩, ?_, by omega⟩
        rw [ho, hc] at h2
        have := h2.app h4
        rw [← List.drop_drop, List.take_append_drop] at this
        exact this
/-- cells that stand for a struct's are the struct's -/
theorem RelCs.agg {I : Mem} {ds : List D} {cs : Array Value} (h : RelCs w I ds cs.toList) : RelD w I (.ag ds) (.agg cs) := by
  refine .ag ds cs (by rw [h.1, Array.length_toList]) (fun j hj => ?_) (fun j d hd => ?_)
  · have hj' : j < cs.size := by rw [h.1, Array.length_toList] at hj; exact hj
    have := (h.2 j _ _ (List.getElem?_eq_getElem hj) (by rw [Array.getElem?_toList, Array.getElem?_eq_getElem hj'])).2
    simpa [Array.getD_eq_getD_getElem?, Array.getElem?_eq_getElem hj'] using this
  · have hj := (List.getElem?_eq_some_iff.1 hd).1
    have hj' : j < cs.size := by rw [h.1, Array.length_toList] at hj; exact hj
    have := (h.2 j d _ hd (by rw [Array.getElem?_toList, Array.getElem?_eq_getElem hj'])).1
    simpa [Array.getD_eq_getD_getElem?, Array.getElem?_eq_getElem hj'] using this
end
open Go.WideShapes in
/-- an argument, read -/
theorem read_arg {H : Type} {enc : TypeId × Value → H} {W : World} {base : Nat} {t : TypeId} {T : Ty} {v : Value} {d : DataW H} {p : List MemPlace} (hk : okTy P 40 t T = true) (hv : Value.okWide P W .any base t v) (h : DataW.Trod enc P W 0 (fun _ => true) true t v d p) :
    ∃ y : T.den, T.fit y ∧ RelD W (fun b => b < W.heap.size) (T.elt y) v := by
  obtain ⟨n, hn⟩ := h
  obtain ⟨y, h1, h2⟩ := read_ty trivial n 40 t T _ _ hn hk
  refine ⟨y, h1, ?_⟩
  have leaf : ∀ {d : D} {v : Value}, v.cells = #[v] → RelCs W (fun b => b < W.heap.size) [d] v.cells.toList → RelD W (fun b => b < W.heap.size) d v := by
    intro d v hc hr
    rw [hc] at hr
    exact (hr.2 0 d v rfl rfl).1
  simp only [okTy] at hk
  split at hk
  · rename_i hu
    obtain ⟨b, rfl⟩ := okWide_bool hu hv
    exact leaf rfl h2
  · rename_i hu
    obtain ⟨b, rfl⟩ := okWide_int hu hv
    exact leaf rfl h2
  · rename_i hu
    obtain ⟨b, rfl⟩ := okWide_string hu hv
    exact leaf rfl h2
  · rename_i hu
    obtain ⟨a, len, cap, rfl⟩ := okWide_slice hu hv
    exact leaf rfl h2
  · rename_i hu
    obtain ⟨cs, rfl, _⟩ := okWide_struct hu hv
    exact h2.agg
  · cases hk
/-- a call that is told, as it is asked for at the top -/
theorem top_call {G : Nat → Option (List D)} {g : FuncId} {ds : List D} {r : D} (h : PCall P G g ds r) {W : World} (hG : Glob ⟨W, fun b => b < W.heap.size, fun _ => False, fun _ => 0, fun _ => 0, G⟩) {vs : Array Value} (hsz : vs.size = ds.length)
    (hv : ∀ (j : Nat) (d : D), ds[j]? = some d → RelD W (fun b => b < W.heap.size) d (vs.getD j undef)) : Calls P g vs W fun e W' => (∃ v I', e = .returned v ∧ RelX W' I' (fun _ => False) r v) ∧ Go.RowKit.Below W.heap.size W W' := by
  refine (h W (fun b => b < W.heap.size) (fun _ => False) vs hG (fun _ h => h) (fun _ h => h.elim) (fun _ _ h => h) hsz hv).mono ?_
  rintro e w' ⟨v, I', he, h1, h2, h3, h4, h5, h6, h7, h8, h9⟩
  exact ⟨⟨v, I', he, h9⟩, h6, h7, h8, h1, fun k hk => (h2 k hk).2⟩
theorem glob_none {W : World} {I K : Mem} {bk ln : Nat → Nat} : Glob ⟨W, I, K, bk, ln, fun _ => none⟩ := fun g cs h => by cases h
end Go.Fw
end
section
/- Contracts of the library as rows; variables of the program that are told. By this session. -/
set_option linter.unusedVariables false
set_option linter.unusedSimpArgs false
namespace Go.Fw
open Go.RowKit
variable {P : Program}
/-- a call that leaves what was there as it was -/
theorem pcall_below {G : Nat → Option (List D)} {g : FuncId} {ds : List D} {r : D}
    (h : ∀ (w : World) (I K : Mem) (vs : Array Value), Glob ⟨w, I, K, fun _ => 0, fun _ => 0, G⟩ → vs.size = ds.length → (∀ (j : Nat) (d : D), ds[j]? = some d → RelD w I d (vs.getD j undef)) →
      Calls P g vs w fun e w' => ∃ v, e = .returned v ∧ Below w.heap.size w w' ∧ RelX w' I K r v) : PCall P G g ds r := by
  intro w I K vs hg hI hK hd hsz hargs
  refine (h w I K vs hg hsz hargs).mono ?_
  rintro e w' ⟨v, rfl, hb, hx⟩
  refine ⟨v, I, rfl, hb.size, fun b hb' => ⟨hb', hb.block b (hI b hb')⟩, fun b hb' => hb.block b (hK b hb'), fun b hb' => ⟨Nat.lt_of_lt_of_le (hI b hb') hb.size, hd b hb'⟩, fun b cs e fz hc => ⟨cs, ?_, rfl⟩, hb.os, hb.tape, hb.output, hx⟩
  rw [hb.block b (Array.getElem?_eq_some_iff.1 hc).1]
  exact hc
/-- more variables told -/
theorem PCall.more {G G' : Nat → Option (List D)} (hG : ∀ g cs, G g = some cs → G' g = some cs) {g : FuncId} {ds : List D} {r : D} (h : PCall P G g ds r) : PCall P G' g ds r := by
  intro w I K vs hg
  exact h w I K vs fun g cs hc => hg g cs (hG g cs hc)
theorem RowOK.more {G G' : Nat → Option (List D)} (hG : ∀ g cs, G g = some cs → G' g = some cs) {w : Row} (h : RowOK P G w) : RowOK P G' w :=
  fun ds a q ha hq => ⟨(h ds a q ha hq).1, (h ds a q ha hq).2.more hG⟩
theorem glob_cells {c : Cf} (hg : Glob c) {g : Nat} {cs : List D} (hG : c.G g = some cs) : ∃ vs e fz, c.w.heap[g]? = some (.cells vs e fz) ∧ vs.size = cs.length ∧ ∀ (j : Nat) (d : D), cs[j]? = some d → RelD c.w c.I d (vs.getD j undef) := by
  obtain ⟨vs, e, fz, h1, _, h3, _, h5⟩ := hg g cs hG
  exact ⟨vs, e, fz, h1, h3, h5⟩
/-- a table of numbers -/
theorem tab_of_glob {c : Cf} (hg : Glob c) {g : Nat} {name : String} {k : IntKind} {zs : List Int} (hn : P.globalNamed name = some g) (hG : c.G g = some (zs.map fun z => D.i k z)) : Lib.TabIs P c.w name k zs := by
  obtain ⟨vs, e, fz, h1, h2, h3⟩ := glob_cells hg hG
  unfold Lib.TabIs World.var?
  simp only [hn, Option.bind_some, h1, Option.some.injEq]
  refine Array.ext (by simpa using h2) fun i hi hi' => ?_
  have hl : i < zs.length := by simpa using hi'
  have := h3 i (.i k zs[i]) (by simp [hl])
  rw [Array.getD_eq_getD_getElem?, Array.getElem?_eq_getElem hi] at this
  simp only [Option.getD_some] at this
  generalize vs[i] = v at this
  cases this
  simp
/-- an error that is there -/
theorem err_of_glob {c : Cf} (hg : Glob c) {g : Nat} {name : String} (hn : P.globalNamed name = some g) (hG : c.G g = some [.er true]) : ∃ tp p, c.w.var? P name = some #[.iface tp p] := by
  obtain ⟨vs, e, fz, h1, h2, h3⟩ := glob_cells hg hG
  have := h3 0 (.er true) rfl
  have hs : vs.size = 1 := h2
  rw [Array.getD_eq_getD_getElem?, Array.getElem?_eq_getElem (by omega)] at this
  simp only [Option.getD_some] at this
  generalize hv : vs[0] = v at this
  cases this with
  | er1 t u =>
    refine ⟨t, u, ?_⟩
    unfold World.var?
    simp only [hn, Option.bind_some, h1, Option.some.injEq]
    refine Array.ext (by simpa using hs) fun i hi hi' => ?_
    have : i = 0 := by omega
    subst this
    exact hv

/-! ### from the condition of a row -/
def GlobAt (W : World) (g : Nat) (cs : List D) : Prop := ∃ vs e fz, W.heap[g]? = some (.cells vs e fz) ∧ vs.size = cs.length ∧ (∀ j : Nat, j < cs.length → (vs.getD j undef).oneCell' = true) ∧
  ∀ (j : Nat) (d : D), cs[j]? = some d → RelD W (fun b => b < W.heap.size) d (vs.getD j undef)
theorem var_cells {W : World} {name : String} {g : Nat} {vs : Array Value} (hn : P.globalNamed name = some g) (h : W.var? P name = some vs) : ∃ e fz, W.heap[g]? = some (.cells vs e fz) := by
  unfold World.var? at h
  simp only [hn, Option.bind_some] at h
  split at h
  · rename_i cs e fz hc
    injection h with h
    subst h
    exact ⟨e, fz, hc⟩
  · cases h
theorem globAt_tab {W : World} {g : Nat} {name : String} {k : IntKind} {zs : List Int} (hn : P.globalNamed name = some g) (h : Lib.TabIs P W name k zs) : GlobAt W g (zs.map fun z => D.i k z) := by
  obtain ⟨e, fz, hc⟩ := var_cells hn h
  refine ⟨_, e, fz, hc, by simp, fun j hj => ?_, fun j d hj => ?_⟩
  · have hj : j < zs.length := by simpa using hj
    simp [Array.getD_eq_getD_getElem?, hj, Value.oneCell']
  · simp only [List.getElem?_map] at hj
    obtain ⟨z, hz, rfl⟩ := Option.map_eq_some_iff.1 hj
    simp only [Array.getD_eq_getD_getElem?, List.getElem?_toArray, List.getElem?_map, hz, Option.map_some, Option.getD_some]
    exact .i k z
theorem globAt_err {W : World} {g : Nat} {name : String} (hn : P.globalNamed name = some g) (h : ∃ t p, W.var? P name = some #[.iface t p]) : GlobAt W g [.er true] := by
  obtain ⟨t, p, h⟩ := h
  obtain ⟨e, fz, hc⟩ := var_cells hn h
  refine ⟨_, e, fz, hc, rfl, fun j hj => ?_, fun j d hj => ?_⟩
  · have : j = 0 := by simp at hj; omega
    subst this; rfl
  · cases j with
    | zero => simp at hj; subst hj; exact .er1 t p
    | succ j => simp at hj
theorem glob_none' {W : World} {I K : Mem} {bk ln : Nat → Nat} : Glob ⟨W, I, K, bk, ln, fun _ => none⟩ := fun g cs h => by cases h
theorem glob_cons {W : World} {K : Mem} {bk ln : Nat → Nat} {n : Nat} {cs : List D} {G : Nat → Option (List D)} (h : GlobAt W n cs) (hg : Glob ⟨W, fun b => b < W.heap.size, K, bk, ln, G⟩) :
    Glob ⟨W, fun b => b < W.heap.size, K, bk, ln, fun g => bif g == n then some cs else G g⟩ := by
  intro g cs' hc
  have hc : (bif g == n then some cs else G g) = some cs' := hc
  cases hb : (g == n) with
  | false => rw [hb] at hc; exact hg g cs' hc
  | true =>
    rw [hb] at hc
    injection hc with hc
    subst hc
    have : g = n := by simpa using hb
    subst this
    obtain ⟨vs, e, fz, h1, h2, h3, h4⟩ := h
    exact ⟨vs, e, fz, h1, (Array.getElem?_eq_some_iff.1 h1).1, h2, h3, h4⟩
/-- an error that a row's condition tells of -/
theorem laid_err {n nm : String} {d : DataW Unit} {r : List (String × DataW Unit)} {W : World} {g : Nat} {ti : TypeId} {ms : Array (String × TypeId)}
    (h : laidMet P ((n, .iface nm d) :: r) W) (hg : P.globalNamed n = some g) (ht : (P.globals[g]?).map (·.type) = some ti) (hi : P.underlying ti = some (.interface ms)) : ∃ t p, W.var? P n = some #[.iface t p] := by
  obtain ⟨ps, ⟨g0, t0, cs0, f0, p0, q0, hg0, ht0, hv0, hd0, _, e0⟩, _, hrows⟩ := h
  obtain rfl := Option.some.inj (hg.symm.trans hg0)
  obtain rfl := Option.some.inj (ht.symm.trans ht0)
  obtain ⟨l0⟩ := cs0
  have : ∃ u v, l0 = [.iface u v] := by
    cases f0 with
    | zero => simp [DataW.trod] at hd0
    | succ f0 =>
      unfold DataW.trod at hd0
      simp only [hi] at hd0
      split at hd0 <;> first | exact ⟨_, _, rfl⟩ | (simp at hd0; done) | skip
      all_goals simp_all
  obtain ⟨u, v, rfl⟩ := this
  exact ⟨u, v, hv0⟩
/-! ### numbers as digits, by so many steps -/
def decF : Nat → Nat → List UInt8
  | 0, _ => []
  | n + 1, u => bif Nat.blt u 10 then [UInt8.ofNat (48 + u)] else decF n (u / 10) ++ [UInt8.ofNat (48 + u % 10)]
theorem decF_is : ∀ (n u : Nat), u < 10 ^ (n + 1) → decF (n + 1) u = Lib.decDigits u
  | 0, u, h => by
    have h' : u < 10 := by simpa using h
    have hb : Nat.blt u 10 = true := by rw [Nat.blt_eq]; exact h'
    unfold Lib.decDigits
    simp [decF, hb, h']
  | n + 1, u, h => by
    unfold decF Lib.decDigits
    by_cases h' : u < 10
    · have hb : Nat.blt u 10 = true := by rw [Nat.blt_eq]; exact h'
      simp [hb, h']
    · have hb : Nat.blt u 10 = false := by
        cases hb : Nat.blt u 10
        · rfl
        · rw [Nat.blt_eq] at hb; omega
      simp only [hb, cond_false, h', dite_false]
      rw [decF_is n (u / 10) (by have : 10 ^ (n + 1 + 1) = 10 ^ (n + 1) * 10 := Nat.pow_succ ..; omega)]
/-- FormatUint, at base 10 -/
def fmtU (a : Int × Int) : Option ByteArray := bif decide (0 ≤ a.1) && decide (a.1 < 18446744073709551616) && decide (a.2 = 10) then some ⟨(decF 20 a.1.toNat).toArray⟩ else none
end Go.Fw
end
